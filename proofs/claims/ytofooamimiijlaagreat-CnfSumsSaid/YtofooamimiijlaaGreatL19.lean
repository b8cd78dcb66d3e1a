/- The solver: what was given is taken in. -/
import Derived.Test.YtofooamimiijlaaGreatL18
import Derived.Test.YtofooamimiijlaaGreatL10
namespace Go.Proofs.YtofooamimiijlaaGreat
open Go.HL HM Go.Sat
set_option maxRecDepth 10000
set_option linter.unusedSimpArgs false
set_option linter.unusedVariables false

section
variable {H : Heap} {ow : Nat → Nat} {p n : Nat} {k : Bk} {f : Cf} {G : List (List Nat)}
/-- Given clauses by codes. -/
def gcode (gl : List (List Int)) : List (List Nat) := (gl.map (·.map codeN)).reverse
theorem gcode_add {gl : List (List Int)} {i : Nat} {z : List Int} (h : gl[i]? = some z) : gcode (gl.take (i + 1)) = z.map codeN :: gcode (gl.take i) := by
  unfold gcode
  rw [List.take_add_one, h]
  simp
theorem gcode_len {gl : List (List Int)} {i : Nat} (h : gl.length ≤ i) : gcode (gl.take i) = gcode gl := by rw [List.take_of_length_le h]
def Cf.key7 (f : Cf) := (f.conf, f.lrn, f.ls, f.room, f.rounds, (f.given, f.gs, f.gl), f.model, f.core, f.st)
theorem key67 {f f' : Cf} (h : f'.key6 = f.key6) : f'.key7 = f.key7 := by
  simp only [Cf.key6, Prod.mk.injEq] at h
  obtain ⟨e1, e2, e3, e4, e5, e6, e7, e8, e9, e10⟩ := h
  simp only [Cf.key7, Prod.mk.injEq]
  exact ⟨e1, e2, e3, e4, e5, e7, e8, e9, e10⟩
set_option maxHeartbeats 4000000 in
/-- All that was given is taken in. -/
theorem sLoad_spec (h : SD H ow p n k f (gcode (f.gl.take f.loaded))) (hg : ∀ z ∈ f.gl, CN n z) (hl : f.loaded ≤ f.gl.length) (hC : f.C.length + f.gl.length ≤ 80000) :
    CallF Tryz.prog 37 [hp p] H (fun v H' => v = .tuple #[] ∧ ∃ ow' f', SD H' ow' p n k f' (gcode f.gl) ∧ Ex H ow H' ow' ∧ f'.key7 = f.key7 ∧ f'.loaded = f.gl.length ∧ f'.C.length ≤ f.C.length + (f.gl.length - f.loaded) ∧ (f.dead = true → f'.dead = true) ∧ (f'.dead = false → f'.head = f'.tr.length)) NoP := by
  have hng := h.sb.m.ng
  obtain ⟨a, c, ef⟩ := h.sb.m.given.form
  have hcap : f.gs.length ≤ c := by
    rcases h.sb.m.given.vec.ex with ⟨e, _⟩ | ⟨b', len, cap, pre, rest, e, _, _, _, hle⟩
    · rw [ef] at e; simp only [Value.slice.injEq] at e; omega
    · rw [ef] at e; simp only [Value.slice.injEq] at e; omega
  have c1 : cellH H ⟨p, 1, none⟩ = some (.slice a f.gs.length c) := by rw [← ef]; exact h.sb.m.c 1
  have c2 : cellH H ⟨p, 2, none⟩ = some (iv f.loaded) := h.sb.m.c 2
  obtain ⟨A, hA⟩ : ∃ A, A = (if c = (f.loaded : Int).toNat then a else a.map (·.add ((f.loaded : Int).toNat * 1))) := ⟨_, rfl⟩
  have hcell : ∀ (j : Nat) (v : Value), f.gs[f.loaded + j]? = some v → ∃ b o, A = some ⟨b, o, none⟩ ∧ ∀ (H1 : Heap) (ow1 : Nat → Nat) (f1 : Cf), RM H1 ow1 p n k f1 → f1.given = f.given → f1.gs = f.gs → cellH H1 ⟨b, o + j, none⟩ = some v := by
    intro j v hv
    have hj := (List.getElem?_eq_some_iff.1 hv).1
    obtain ⟨b, o, cap, e, -⟩ := vec_cell h.sb.m.given.vec hv
    rw [ef] at e
    simp only [Value.slice.injEq] at e
    obtain ⟨rfl, -, rfl⟩ := e
    refine ⟨b, o + f.loaded, ?_, fun H1 ow1 f1 m1 e1 e2 => ?_⟩
    · rw [hA, if_neg (by omega)]
      simp [Addr.add]
    · have hv1 : f1.gs[f.loaded + j]? = some v := by rw [e2]; exact hv
      obtain ⟨b', o', cap', e', hc'⟩ := vec_cell m1.given.vec hv1
      rw [e1, ef] at e'
      simp only [Value.slice.injEq, Option.some.injEq, Addr.mk.injEq, and_true] at e'
      obtain ⟨⟨rfl, rfl⟩, -, rfl⟩ := e'
      rw [Nat.add_assoc]; exact hc'
  refine callF_of Tryz.func37 rfl Tryz.ntmps37 Tryz.results37 (by decide) rfl ?_
  refine draw0 (lk [(0, true), (1, true), (2, true), (3, true), (4, true), (5, true), (6, true), (7, true), (8, true), (9, true), (10, true)] .fin) T.mixed ?_
  simp (disch := omega) only [go_sem, dsB_of, c1, c2]
  refine cut_at (fun ρ H1 => ∃ ow1 f1, (ρ.get 0 = hp p ∧ ρ.ds = []) ∧ SD H1 ow1 p n k f1 (gcode f.gl) ∧ Ex H ow H1 ow1 ∧ f1.key6 = f.key6 ∧ f1.C.length ≤ f.C.length + (f.gl.length - f.loaded) ∧ (f.dead = true → f1.dead = true)) ?_ ?_
  · simp (disch := omega) only [go_sem, ↓cw_block, dsB_of]
    refine loop_by (fun j ρ H1 => ∃ (i : Nat) (ow1 : Nat → Nat) (f1 : Cf), j = f.gs.length - f.loaded - i ∧ i ≤ f.gs.length - f.loaded ∧ (ρ.get 0 = hp p ∧ ρ.get 12 = .slice A (f.gs.length - f.loaded) (c - f.loaded) ∧ ρ.get 13 = iv ((f.gs.length - f.loaded : Nat) : Int) ∧ ρ.get 14 = iv i ∧ ρ.ds = []) ∧
      SD H1 ow1 p n k f1 (gcode (f.gl.take (f.loaded + i))) ∧ Ex H ow H1 ow1 ∧ f1.key6 = f.key6 ∧ f1.C.length ≤ f.C.length + i ∧ (f.dead = true → f1.dead = true)) (k := f.gs.length - f.loaded) ?_ ?_
    · exact ⟨0, ow, f, rfl, by omega, by simp (disch := omega) only [go_sem, ↓cw_block, dsB_of]; rw [hA]; simp, h, Ex.refl, rfl, by omega, id⟩
    · rintro _ ρ H1 ⟨i, ow1, f1, rfl, hi, ⟨r0, r12, r13, r14, rd⟩, s1, e1, k1, C1, d1⟩
      by_cases hie : i = f.gs.length - f.loaded
      · subst hie
        rw [gcode_len (by omega)] at s1
        simp (disch := omega) only [go_sem, ↓cw_block, dsB_of, r0, r12, r13, r14, rd]
        exact fin ⟨ow1, f1, by simp (disch := omega) only [go_sem, ↓cw_block, dsB_of, r0, rd], s1, e1, k1, by omega, d1⟩
      · obtain ⟨v, hv⟩ : ∃ v, f.gs[f.loaded + i]? = some v := ⟨_, List.getElem?_eq_getElem (by omega)⟩
        obtain ⟨z, hz⟩ : ∃ z, f.gl[f.loaded + i]? = some z := ⟨_, List.getElem?_eq_getElem (by omega)⟩
        obtain ⟨b, o, eA, hc⟩ := hcell i v hv
        have k1' := k1
        simp only [Cf.key6, Prod.mk.injEq] at k1'
        obtain ⟨x1, x2, x3, x4, x5, x6, ⟨x7, x8, x9⟩, x10, x11, x12⟩ := k1'
        have kc := hc H1 ow1 f1 s1.sb.m x7 x8
        have hzv := (s1.sb.m.gcl (f.loaded + i) v z (by rw [x8]; exact hv) (by rw [x9]; exact hz)).vec
        have hi1 : (i : Int) + 1 = ((i + 1 : Nat) : Int) := by omega
        rw [eA] at r12
        simp (disch := omega) only [go_sem, ↓cw_block, dsB_of, r0, r12, r13, r14, kc]
        refine call_to (sEnter_spec s1 (hg z (List.mem_of_getElem? hz)) hzv (by omega)) ?_
        rintro v H2 ⟨rfl, ow2, f2, s2, e2, k2⟩
        simp (disch := omega) only [go_sem, ↓cw_block, dsB_of, r0, r12, r13, r14]
        refine fin ⟨f.gs.length - f.loaded - (i + 1), by omega, i + 1, ow2, f2, rfl, by omega, by simp (disch := omega) only [go_sem, ↓cw_block, dsB_of, r0, r12, r13, r14, rd, hi1, eA], ?_, e1.trans e2, k2.key.trans k1, by have := k2.C; omega, fun e => k2.dead (d1 e)⟩
        have := gcode_add hz
        rw [← Nat.add_assoc, this]; exact s2
  · rintro ρ H1 ⟨ow1, f1, ⟨r0, rd⟩, s1, e1, k1, C1, d1⟩
    have k1' := k1
    simp only [Cf.key6, Prod.mk.injEq] at k1'
    obtain ⟨x1, x2, x3, x4, x5, x6, ⟨x7, x8, x9⟩, x10, x11, x12⟩ := k1'
    have c1 : cellH H1 ⟨p, 1, none⟩ = some (.slice a f.gs.length c) := by rw [← ef, ← x7]; exact s1.sb.m.c 1
    obtain ⟨H2, w2, (m2 : RM _ _ _ _ _ _), e2⟩ := s1.sb.m.putLoaded f.gs.length
    have c21 : cellH H2 ⟨p, 21, none⟩ = some (.bool f1.dead) := m2.c 21
    have s2 : SD H2 ow1 p n k (f1.uLoaded f.gs.length) (gcode f.gl) := ⟨⟨m2, ⟨s1.sb.r.vals, s1.sb.r.lv⟩, s1.sb.inv, s1.sb.wi, s1.sb.le, s1.sb.hin, s1.sb.sn, s1.sb.stp, s1.sb.n⟩, s1.st, s1.ok, s1.no⟩
    by_cases hd : f1.dead = true
    · rw [hd] at c21
      have hk7 : f1.key7 = f.key7 := key67 k1
      simp (disch := omega) only [go_sem, ↓cw_block, dsB_of, r0, c1, w2, c21, dsB_of, rd]
      refine fin ⟨rfl, ow1, _, s2, e1.trans e2, hk7, hng, C1, fun _ => hd, fun e => ?_⟩
      have e' : f1.dead = false := e
      rw [hd] at e'; cases e'
    · have hd' : f1.dead = false := by simpa using hd
      rw [hd'] at c21
      simp (disch := omega) only [go_sem, ↓cw_block, dsB_of, r0, c1, w2, c21]
      refine call_to (sPropagate_spec m2 s2.sb.r (s2.ok hd') s2.sb.n (by show f1.C.length ≤ _; omega) (by rw [s2.st]; simp)) ?_
      rintro v H3 ⟨ow3, f3, m3, q3, e3, v3, ha⟩
      have hn := s2.sb.n
      have k3 := v3.key
      simp only [Cf.key, Prod.mk.injEq] at k3
      obtain ⟨y1, y2, y3, y4, y5, y6, y7, ⟨y8, y8', y8''⟩, y9, y10, y11, y12, y13⟩ := k3
      have hk7 : f3.key7 = f.key7 := by
        simp only [Cf.key7, Prod.mk.injEq]
        exact ⟨y2.trans x1, y3.trans x2, y4.trans x3, y5.trans x4, y6.trans x5, ⟨y8.trans x7, y8'.trans x8, y8''.trans x9⟩, y10.trans x10, y11.trans x11, v3.st.trans x12⟩
      have hst3 : f3.st = [] := v3.st.trans s2.st
      have hpl3 : f3.pl = f1.pl := congrArg (fun z => z.2.2.2.1) v3.key3
      have hin3 : HIn n f3 := s2.sb.hin.pre v3.pre (fun v => by rw [hpl3])
      have sn3 : ∀ v, v ≤ n → bt f3.seen v = false := by rw [y9]; exact s2.sb.sn
      have stp3 : 1024 ≤ f3.step ∧ f3.step ≤ 1099511627776 := by rw [y13]; exact s2.sb.stp
      have hd3 : f3.dead = false := y12.trans hd'
      have hC3 : f3.C.length = f1.C.length := by rw [y1]
      rcases ha with ⟨rfl, s3, hh3⟩ | ⟨c, x, K, D, rfl, V3, hall⟩
      · have hpn : pn none = .pointer none := rfl
        simp (disch := omega) only [go_sem, ↓cw_block, dsB_of, r0, hpn, dsB_of, rd]
        exact fin ⟨rfl, ow3, f3, ⟨⟨m3, q3, s3.inv, s3.wi, s3.le, hin3, sn3, stp3, hn⟩, hst3, fun _ => s3, fun e => by rw [hd3] at e; cases e⟩, (e1.trans e2).trans e3, hk7, y7.trans hng, by omega, (fun e => absurd (d1 e) hd), fun _ => hh3⟩
      · obtain ⟨H4, w4, (m4 : RM _ _ _ _ _ _), e4⟩ := m3.putDead true
        simp (disch := omega) only [go_sem, ↓cw_block, dsB_of, r0, w4, dsB_of, rd]
        exact fin ⟨rfl, ow3, f3.uDead true, ⟨⟨m4, ⟨q3.vals, q3.lv⟩, V3.inv, V3.wi, V3.le, hin3, sn3, stp3, hn⟩, hst3, (fun e => nomatch e), fun _ m hm => unsat_all V3.gi V3.mem.1 hall hst3 hm⟩, ((e1.trans e2).trans e3).trans e4, hk7, y7.trans hng, (show f3.C.length ≤ _ by omega), (fun _ => rfl), (fun e => nomatch e)⟩
end
end Go.Proofs.YtofooamimiijlaaGreat

namespace Go.Proofs.YtofooamimiijlaaGreat
open Go.HL HM Go.Sat
set_option maxRecDepth 10000
set_option linter.unusedSimpArgs false
set_option linter.unusedVariables false

section
variable {H : Heap} {ow : Nat → Nat} {p n : Nat} {k : Bk} {f : Cf} {G : List (List Nat)}
/-- The map of how often each has come. -/
def cnt (l : List Int) (q : Int) : Option Int := if l.count q = 0 then none else some ((l.count q : Nat) : Int)
theorem cnt_add {l : List Int} {x : Int} {kvs : List (Int × Int)} (h : ∀ q, mget kvs q = cnt l q) : ∀ q, mget (mset kvs x ((l.count x : Nat) + 1 : Int)) q = cnt (l ++ [x]) q := by
  intro q
  rw [mget_mset, h q]
  unfold cnt
  rw [List.count_append]
  by_cases e : q = x
  · subst e
    rw [if_pos rfl, List.count_singleton_self, if_neg (by omega)]
    rfl
  · rw [if_neg e, List.count_singleton]
    have : (x == q) = false := by simpa using Ne.symm e
    rw [this]; simp
def okA (n : Nat) (x : Int) : Bool := decide (x ≠ 0 ∧ -(n : Int) ≤ x ∧ x ≤ n)
set_option maxHeartbeats 4000000 in
theorem sAssume_spec (h : RM H ow p n k f) (hn : n ≤ 1000) {a : Option Addr} {xs : List Int} {c : Nat} (hx : Rn H a xs) (hlen : xs.length ≤ 1000) :
    CallF Tryz.prog 36 [hp p, .slice a xs.length c] H (fun v H' => Fr [] H H' ∧ ((xs.all (okA n) = false ∧ v = .tuple #[.slice none 0 0, .bool false]) ∨ (xs.all (okA n) = true ∧ ∃ (w : Value) (ds : List Int), v = .tuple #[w, .bool true] ∧ Vec H' 3 1 w (nv (ds.map codeN)) ∧ (∀ b ∈ own w, H.size ≤ b) ∧ (∀ x, x ∈ ds ↔ x ∈ xs) ∧ ds.length ≤ xs.length ∧ ∀ x, ds[0]? = some x → xs[0]? = some x))) NoP := by
  obtain ⟨G, hG⟩ : ∃ G, H.push (.map #[] 0) = G := ⟨_, rfl⟩
  have f0 : Fr [] H G := by rw [← hG]; exact Fr.push
  have hm0 : MapR G H.size (([] : List (Int × Int)).map ivp) := by rw [← hG]; exact MapR.new
  refine callF_of Tryz.func36 rfl Tryz.ntmps36 Tryz.results36 (by decide) rfl ?_
  simp (disch := omega) only [go_sem, ↓cw_block, dsB_of]
  rw [hG]
  refine loop_by (fun j ρ H1 => ∃ (i : Nat) (kvs : List (Int × Int)) (wv : Value) (ds : List Int), j = xs.length - i ∧ i ≤ xs.length ∧ (ρ.get 0 = hp p ∧ ρ.get 6 = .map (some H.size) ∧ ρ.get 7 = wv ∧ ρ.get 11 = .slice a xs.length c ∧ ρ.get 12 = iv xs.length ∧ ρ.get 13 = iv i ∧ ρ.ds = []) ∧
    Fr [] H H1 ∧ MapR H1 H.size (kvs.map ivp) ∧ (∀ q, mget kvs q = cnt (xs.take i) q) ∧ (xs.take i).all (okA n) = true ∧ kvs.length ≤ i ∧ Vec H1 3 1 wv (nv (ds.map codeN)) ∧ (∀ b ∈ own wv, H.size < b) ∧ (∀ x, x ∈ ds ↔ x ∈ xs.take i) ∧ ds.length ≤ i ∧ ∀ x, ds[0]? = some x → xs[0]? = some x) (k := xs.length) ?_ ?_
  · exact ⟨0, [], .slice none 0 0, [], rfl, by omega, by simp (disch := omega) only [go_sem, ↓cw_block, dsB_of], f0, hm0, fun q => by simp [mget, cnt], by simp, Nat.le_refl _, Vec.nil, by simp [own], by simp, by simp, by simp⟩
  · rintro _ ρ H1 ⟨i, kvs, wv, ds, rfl, hil, ⟨r0, r6, r7, r11, r12, r13, rd⟩, f1, m1, hkv, hall, hkl, v1, o1, hds, hdl, hd0⟩
    by_cases hie : i = xs.length
    · subst hie
      rw [List.take_length] at hall hds
      simp (disch := omega) only [go_sem, ↓cw_block, dsB_of, r0, r6, r7, r11, r12, r13, rd, dsB_of]
      exact fin ⟨f1, .inr ⟨hall, wv, ds, rfl, v1, fun b hb => Nat.le_of_lt (o1 b hb), hds, hdl, hd0⟩⟩
    · obtain ⟨x, hxi⟩ : ∃ x, xs[i]? = some x := ⟨_, List.getElem?_eq_getElem (by omega)⟩
      obtain ⟨b, o, e, kx⟩ := (hx.frame f1 (by simp)) i x hxi
      subst e
      have hm := h.out f1 (by simp)
      have c0 : cellH H1 ⟨p, 0, none⟩ = some (iv n) := hm.c 0
      have hi1 : (i : Int) + 1 = ((i + 1 : Nat) : Int) := by omega
      have htk : xs.take (i + 1) = xs.take i ++ [x] := by rw [List.take_add_one, hxi]; rfl
      by_cases hok : okA n x = true
      · have hok' := hok
        unfold okA at hok'
        rw [decide_eq_true_eq] at hok'
        obtain ⟨x0, x1, x2⟩ := hok'
        have hcl : (xs.take i).count x ≤ i := Nat.le_trans List.count_le_length (by simp; omega)
        have hval : ((mget kvs x).map (Value.int .i64)).getD (iv 0) = iv (((xs.take i).count x : Nat) : Int) := by
          rw [hkv x]; unfold cnt
          split
          · rename_i e; rw [e]; rfl
          · rfl
        have hlk : qrun Tryz.prog (Instr.lookup 56 (.map (some H.size)) (iv x) false) H1 = some (iv (((xs.take i).count x : Nat) : Int)) := by
          rw [look_ints Tryz.underlying56 Tryz.underlying3 T.zero3 m1 x false, ← hval]; rfl
        simp (disch := omega) only [go_sem, ↓cw_block, dsB_of, r0, r6, r7, r11, r12, r13, rd, kx, c0, hlk]
        refine set_ints Tryz.underlying56 Tryz.underlying3 m1 ?_
        intro H2 m2 f2
        have hkv2 := cnt_add (x := x) hkv
        rw [← htk] at hkv2
        have hct : (xs.take (i + 1)).count x = (xs.take i).count x + 1 := by rw [htk, List.count_append, List.count_singleton_self]
        have hc2 : cnt (xs.take (i + 1)) x = some ((((xs.take i).count x : Nat) : Int) + 1) := by
          unfold cnt
          rw [hct, if_neg (Nat.succ_ne_zero _)]
          rfl
        have hlk2 : qrun Tryz.prog (Instr.lookup 56 (.map (some H.size)) (iv x) false) H2 = some (iv (((xs.take i).count x : Nat) + 1 : Int)) := by
          rw [look_ints Tryz.underlying56 Tryz.underlying3 T.zero3 m2 x false, hkv2 x, hc2]
          rfl
        have f12 : Fr [H.size] H1 H2 := f2
        have f02 : Fr [] H H2 := ⟨Nat.le_trans f1.size f2.size, fun q hq _ => by rw [f2.same q (by have := f1.size; omega) (by simp only [List.mem_singleton]; omega), f1.same q hq (by simp)]⟩
        have v2 := v1.frame f2 (fun b hb => by have := o1 b hb; simp only [List.mem_singleton]; omega)
        have hall2 : (xs.take (i + 1)).all (okA n) = true := by rw [htk, List.all_append, hall]; simp [hok]
        by_cases hc0 : (xs.take i).count x = 0
        · have hnm : x ∉ xs.take i := List.count_eq_zero.1 hc0
          rw [hc0] at hlk2
          rw [Int.natCast_zero, Int.zero_add] at hlk2
          simp (disch := omega) only [go_sem, ↓cw_block, dsB_of, r0, r6, r7, r11, r12, r13, rd, hlk2]
          refine call_to (sCode_spec (l := x) (by omega)) ?_
          rintro v H3 ⟨rfl, rfl⟩
          simp (disch := omega) only [go_sem, ↓cw_block, dsB_of, r0, r6, r7, r11, r12, r13, rd]
          refine app_lit1 T.el26 rfl v2 rfl (by rw [nv_len, List.length_map]; omega) ?_
          intro v' H4 g1 g2 g3 g4
          simp (disch := omega) only [go_sem, ↓cw_block, dsB_of, r0, r6, r7, r11, r12, r13, rd]
          refine fin ⟨xs.length - (i + 1), by omega, i + 1, _, v', ds ++ [x], rfl, by omega, by simp (disch := omega) only [go_sem, ↓cw_block, dsB_of, r0, r6, r7, r11, r12, r13, rd, hi1], ⟨Nat.le_trans f02.size g2.size, fun q hq _ => ?_⟩, m2.frame g2 (fun e => ?_), hkv2, hall2, by have := mset_len x ((((xs.take i).count x : Nat) : Int) + 1) kvs; omega, by simpa [nv] using g1, fun q hq => ?_, fun y => by rw [htk, List.mem_append, List.mem_append, hds y], by simp; omega, fun y hy => ?_⟩
          · rw [g2.same q (by have := f02.size; omega) (fun e => by have := o1 q e; omega), f02.same q hq (by simp)]
          · have := o1 _ e; omega
          · rcases g3 q hq with h | h
            · exact o1 q h
            · have := m2.lt; omega
          · cases ds with
            | nil =>
              have h0 : xs.take i = [] := by
                cases hz : xs.take i with
                | nil => rfl
                | cons z t => have := (hds z).2 (by rw [hz]; simp); simp at this
              have hi0 : i = 0 := by
                have := congrArg List.length h0
                simp at this; rcases this with h | h
                · exact h
                · subst h; simp at hxi
              subst hi0
              simp at hy
              subst hy
              exact hxi
            | cons z t => exact hd0 y (by simpa using hy)
        · have hne : (((xs.take i).count x : Nat) : Int) + 1 ≠ 1 := by omega
          simp (disch := omega) only [go_sem, ↓cw_block, dsB_of, r0, r6, r7, r11, r12, r13, rd, hlk2]
          have hmx : x ∈ xs.take i := List.count_pos_iff.1 (by omega)
          refine fin ⟨xs.length - (i + 1), by omega, i + 1, _, wv, ds, rfl, by omega, by simp (disch := omega) only [go_sem, ↓cw_block, dsB_of, r0, r6, r7, r11, r12, r13, rd, hi1], f02, m2, hkv2, hall2, by have := mset_len x ((((xs.take i).count x : Nat) : Int) + 1) kvs; omega, v2, o1, fun y => ?_, by omega, hd0⟩
          rw [htk, List.mem_append, hds y, List.mem_singleton]
          exact ⟨.inl, fun h => h.elim id (fun e => e ▸ hmx)⟩
      · have hbad : x = 0 ∨ x < -(n : Int) ∨ (n : Int) < x := by
          unfold okA at hok
          rw [decide_eq_true_eq] at hok
          omega
        have hf : xs.all (okA n) = false := by
          rw [List.all_eq_false]
          exact ⟨x, List.mem_of_getElem? hxi, hok⟩
        have hz : x = 0 ∨ x ≠ 0 := by omega
        rcases hz with hz | hz
        · subst hz
          simp (disch := omega) only [go_sem, ↓cw_block, dsB_of, r0, r6, r7, r11, r12, r13, rd, kx, c0, dsB_of]
          exact fin ⟨f1, .inl ⟨hf, rfl⟩⟩
        · by_cases hlt : x < -(n : Int)
          · simp (disch := omega) only [go_sem, ↓cw_block, dsB_of, r0, r6, r7, r11, r12, r13, rd, kx, c0, dsB_of]
            exact fin ⟨f1, .inl ⟨hf, rfl⟩⟩
          · simp (disch := omega) only [go_sem, ↓cw_block, dsB_of, r0, r6, r7, r11, r12, r13, rd, kx, c0, dsB_of]
            exact fin ⟨f1, .inl ⟨hf, rfl⟩⟩
end
end Go.Proofs.YtofooamimiijlaaGreat

namespace Go.Proofs.YtofooamimiijlaaGreat
open Go.HL HM Go.Sat
set_option maxRecDepth 10000
set_option linter.unusedSimpArgs false
set_option linter.unusedVariables false

section
variable {H : Heap} {ow : Nat → Nat} {p n : Nat} {k : Bk} {f : Cf} {G : List (List Nat)}
set_option maxHeartbeats 4000000 in
theorem sRefuted_spec (h : RM H ow p n k f) {cv : Value} {zs : List Int} (hv : Vec H 3 1 cv (zs.map iv)) (hlb : ∀ x ∈ zs, litB x = true) (hlen : zs.length ≤ 100000) {q : Nat} (hq : f.ls.length = 2 * q) (hls : q ≤ 1000000) :
    CallF Tryz.prog 40 [hp p, cv] H (fun v H' => v = .tuple #[] ∧ ∃ ow' cw ys idle, NF zs ys idle ∧ Vec H' 3 1 cw (ys.map iv) ∧ (∀ b ∈ own cw, H.size ≤ b ∧ ow' b = 0) ∧ Ex H ow H' ow' ∧
      ((idle = true ∧ RM H' ow' p n k (f.uCore cw)) ∨ (idle = false ∧ ∃ lv w, RM H' ow' p n k ((f.uCore cw).uLines lv (f.ls ++ [.bool false, w])) ∧ Vec H' 3 1 w ((ys.map (- ·)).map iv) ∧ ∀ b ∈ own w, H.size ≤ b ∧ ow' b = 0))) NoP := by
  obtain ⟨a, c, el⟩ : ∃ a c, cv = .slice a zs.length c := by
    obtain ⟨a, len, c, rfl, e⟩ := hv.len
    rw [List.length_map, Nat.mul_one] at e; subst e
    exact ⟨a, c, rfl⟩
  subst el
  obtain ⟨a1, c1, e1, hrn⟩ := (IL.of_vec hv).ex
  simp only [Value.slice.injEq] at e1
  obtain ⟨rfl, -, rfl⟩ := e1
  refine callF_of Tryz.func40 rfl Tryz.ntmps40 Tryz.results40 (by decide) rfl ?_
  simp (disch := omega) only [go_sem, ↓cw_block, dsB_of]
  refine call_to (cNorm_spec hrn hlb (by omega)) ?_
  rintro v H1 ⟨f1, cw, ys, idle, rfl, v1, o1, hnf⟩
  obtain ⟨b, d, eb⟩ : ∃ a c, cw = .slice a ys.length c := by
    obtain ⟨a, len, c, rfl, e⟩ := v1.len
    rw [List.length_map, Nat.mul_one] at e; subst e
    exact ⟨a, c, rfl⟩
  subst eb
  have m1 := h.out f1 (by simp)
  have e01 : Ex H ow H1 ow := Ex.of (Sm.of (R := fun _ => False) f1 (by simp)) (by simp)
  obtain ⟨H2, w2, (m2 : RM _ _ _ _ _ _), e2⟩ := m1.putCore (.slice b ys.length d)
  have hf1 : ∀ q ∈ own (Value.slice b ys.length d), ow q = 0 := fun b hb => h.free (o1 b hb)
  have v2 := e2.vec v1 hf1
  have e02 := e01.trans e2
  cases idle with
  | true =>
    simp (disch := omega) only [go_sem, ↓cw_block, dsB_of, w2, dsB_of]
    exact fin ⟨rfl, ow, _, ys, true, hnf, v2, fun b hb => ⟨o1 b hb, hf1 b hb⟩, e02, .inl ⟨rfl, m2⟩⟩
  | false =>
    have hyl := hnf.le
    obtain ⟨G1, hG⟩ : ∃ G1, H2.push (.cells (List.replicate ys.length (iv 0)).toArray 3) = G1 := ⟨_, rfl⟩
    have f2 : Fr [] H2 G1 := by rw [← hG]; exact Fr.push
    have vG : Vec G1 3 1 (.slice (some ⟨H2.size, 0, none⟩) 0 ys.length) [] := ⟨.inr ⟨H2.size, 0, ys.length, [], List.replicate ys.length (iv 0), rfl, by rw [← hG]; exact Blk.new rfl, rfl, by simp, by omega⟩⟩
    simp (disch := omega) only [go_sem, ↓cw_block, dsB_of, w2, hG]
    refine loop_by (fun j ρ H3 => ∃ (i : Nat) (wv : Value), j = ys.length - i ∧ i ≤ ys.length ∧ (ρ.get 0 = hp p ∧ ρ.get 6 = wv ∧ ρ.get 22 = .slice b ys.length d ∧ ρ.get 23 = iv ys.length ∧ ρ.get 24 = iv i ∧ ρ.ds = []) ∧
      Fr [] H2 H3 ∧ Vec H3 3 1 wv (((ys.take i).map (- ·)).map iv) ∧ ∀ b ∈ own wv, H2.size ≤ b) (k := ys.length) ?_ ?_
    · exact ⟨0, _, rfl, by omega, by simp (disch := omega) only [go_sem, ↓cw_block, dsB_of]; rfl, f2, by simpa using vG, by simp [own]⟩
    · rintro _ ρ H3 ⟨i, wv, rfl, hil, ⟨r0, r6, r22, r23, r24, rd⟩, f3, v3, o3⟩
      have m3 := m2.out f3 (by simp)
      have e23 : Ex H2 ow H3 ow := Ex.of (Sm.of (R := fun _ => False) f3 (by simp)) (by simp)
      by_cases hie : i = ys.length
      · subst hie
        rw [List.take_length] at v3
        obtain ⟨wa, wc, ew⟩ : ∃ a c, wv = .slice a ys.length c := by
          obtain ⟨a, len, c, rfl, e⟩ := v3.len
          rw [List.length_map, List.length_map, Nat.mul_one] at e; subst e
          exact ⟨a, c, rfl⟩
        subst ew
        have hf3 : ∀ b ∈ own (Value.slice wa ys.length wc), ow b = 0 := fun b hb => m2.free (o3 b hb)
        simp (disch := omega) only [go_sem, ↓cw_block, dsB_of, r0, r6, r22, r23, r24, rd]
        refine call_to (sAddL_spec m3 (q := q) hq hls) ?_
        rintro v H4 ⟨rfl, ow4, lv, m4, e4⟩
        simp (disch := omega) only [go_sem, ↓cw_block, dsB_of, dsB_of, rd]
        refine fin ⟨rfl, ow4, _, ys, false, hnf, (e23.trans e4).vec v2 hf1, fun q hq => ⟨o1 q hq, ?_⟩, (e02.trans e23).trans e4, .inr ⟨rfl, lv, _, m4, e4.vec v3 hf3, fun q hq => ⟨by have := o3 q hq; have := e02.sm.size; omega, ?_⟩⟩⟩
        · rw [e4.ow q ((v2.frame f3 (by simp)).lt q hq)]; exact hf1 q hq
        · rw [e4.ow q (v3.lt q hq)]; exact hf3 q hq
      · obtain ⟨x, hx⟩ : ∃ x, ys[i]? = some x := ⟨_, List.getElem?_eq_getElem (by omega)⟩
        have hxb := hlb x ((hnf.mem x).1 (List.mem_of_getElem? hx))
        unfold litB at hxb
        rw [decide_eq_true_eq] at hxb
        obtain ⟨b', o', cap', e', kx⟩ := vec_cell (v2.frame f3 (by simp)) (i := i) (u := iv x) (by simp [hx])
        simp only [Value.slice.injEq] at e'
        obtain ⟨rfl, -, rfl⟩ := e'
        have hi1 : (i : Int) + 1 = ((i + 1 : Nat) : Int) := by omega
        simp (disch := omega) only [go_sem, ↓cw_block, dsB_of, r0, r6, r22, r23, r24, rd, kx]
        refine app_lit1 T.el26 rfl v3 rfl (by simp; omega) ?_
        intro v' H4 g1 g2 g3 g4
        simp (disch := omega) only [go_sem, ↓cw_block, dsB_of, r0, r6, r22, r23, r24, rd]
        refine fin ⟨ys.length - (i + 1), by omega, i + 1, v', rfl, by omega, by simp (disch := omega) only [go_sem, ↓cw_block, dsB_of, r0, r6, r22, r23, r24, rd, hi1], ⟨Nat.le_trans f3.size g2.size, fun q hq _ => ?_⟩, ?_, fun q hq => ?_⟩
        · rw [g2.same q (by have := f3.size; omega) (fun e => by have := o3 q e; omega), f3.same q hq (by simp)]
        · have : ((ys.take (i + 1)).map (- ·)).map iv = ((ys.take i).map (- ·)).map iv ++ [iv (-x)] := by
            rw [List.take_add_one, hx]; simp
          rw [this]; exact g1
        · rcases g3 q hq with h | h
          · exact o3 q h
          · have := f3.size; omega
end
end Go.Proofs.YtofooamimiijlaaGreat

namespace Go.Proofs.YtofooamimiijlaaGreat
open Go.HL HM Go.Sat
set_option maxRecDepth 10000
set_option linter.unusedSimpArgs false
set_option linter.unusedVariables false

section
variable {H : Heap} {ow : Nat → Nat} {p n : Nat} {k : Bk} {f : Cf} {G : List (List Nat)}
theorem sOver_spec {A B : Nat} {x : Int} {b : Int} (hb : b < 0) (hA : Blk H A 3 [iv b]) : CallF Tryz.prog 38 [iv x, .pointer (some ⟨A, 0, none⟩), .pointer (some ⟨B, 0, none⟩)] H (fun v H' => v = .bool false ∧ H' = H) NoP := by
  have hc : cellH H ⟨A, 0, none⟩ = some (iv b) := by rw [hA.cell]; rfl
  refine callF_of Tryz.func38 rfl Tryz.ntmps38 Tryz.results38 (by decide) rfl ?_
  simp (disch := omega) only [go_sem, ↓cw_block, dsB_of, hc]
  exact fin ⟨rfl, rfl⟩
theorem Ex.rn {H' : Heap} {ow' : Nat → Nat} (h : Ex H ow H' ow') {a : Option Addr} {xs : List Int} (hx : Rn H a xs) (ho : ∀ b o, a = some ⟨b, o, none⟩ → b < H.size ∧ ow b = 0) : Rn H' a xs := fun i x hi => by
  obtain ⟨b, o, e, hc⟩ := hx i x hi
  refine ⟨b, o, e, ?_⟩
  obtain ⟨h1, h2⟩ := ho b o e
  have := h.fr h1 h2
  unfold cellH at hc ⊢
  rw [this]; exact hc
/-- How much has been used. -/
structure Bd (f : Cf) (u : Nat) : Prop where
  conf : f.conf ≤ u
  lrn : f.lrn.length ≤ u
  ls : ∃ q, f.ls.length = 2 * q ∧ q ≤ u
  C : f.C.length ≤ f.loaded + u
  room : f.room = 4000
  rd : f.rounds ≤ 2
/-- A solver between two calls. -/
structure SV (H : Heap) (ow : Nat → Nat) (p n : Nat) (k : Bk) (f : Cf) : Prop where
  sd : SD H ow p n k f (gcode (f.gl.take f.loaded))
  cn : ∀ z ∈ f.gl, CN n z
  ld : f.loaded ≤ f.gl.length
/-- There is no conflict. -/
def QHs (n : Nat) (G : List (List Nat)) (xs : List Int) (m : Nat → Bool) : Prop := ∀ ds : List Int, (∀ x, x ∈ ds ↔ x ∈ xs) → ds.length ≤ xs.length → (∀ x, ds[0]? = some x → xs[0]? = some x) → QH n G (ds.map codeN) m
def Quiet (n : Nat) (G : List (List Nat)) (xs : List Int) : Prop :=
  (∃ m, QHs n G xs m) ∨ ∀ (s : St) (C : List Nat) (w : Nat → List Nat) (head : Nat), SI n s C w G head → head = s.tr.length → False
/-- What solving answers. -/
inductive SolA (n : Nat) (G : List (List Nat)) (xs : List Int) (H : Heap) (ow : Nat → Nat) (f f' : Cf) : Value → Prop
  | bad (hb : xs.all (okA n) = false) (hls : f'.ls = f.ls) : SolA n G xs H ow f f' (iv 0)
  | sat (md : List Bool) (m : Nat → Bool) (hb : xs.all (okA n) = true) (hd : f'.dead = false) (hm : Mdl m) (hG : AllB m G) (ha : ∀ x ∈ xs, m (codeN x) = true) (hl : md = (List.range n).map fun j => m (2 * j + 2))
      (hv : Vec H 4 1 f'.model (md.map Value.bool)) (ho : ∀ b ∈ own f'.model, ow b = 0) (hc : f'.core = .slice none 0 0) (hq : Quiet n G xs → f'.ls = f.ls) : SolA n G xs H ow f f' (iv 1)
  | unsat (cs : List Nat) (ys : List Int) (idle : Bool) (hb : xs.all (okA n) = true) (hcs : cs = [] ∧ f'.dead = true ∨ cs ≠ [] ∧ f'.dead = false ∧ ∃ x ∈ xs, codeN x ∈ cs) (hi : ∀ y ∈ cs, isC n y) (hu : ∀ m, Mdl m → AllB m G → ¬ ∀ y ∈ cs, m y = true) (hqc : Quiet n G xs → ∀ y ∈ cs, ∃ x ∈ xs, y = codeN x) (hn : NF (cs.map litI) ys idle)
      (hv : Vec H 3 1 f'.core (ys.map iv)) (ho : ∀ b ∈ own f'.core, ow b = 0)
      (hl : ∃ L0, (Quiet n G xs → L0 = f.ls) ∧ (idle = true ∧ f'.ls = L0 ∨ idle = false ∧ ∃ w, f'.ls = L0 ++ [.bool false, w] ∧ Vec H 3 1 w ((ys.map (- ·)).map iv) ∧ ∀ b ∈ own w, ow b = 0)) : SolA n G xs H ow f f' (iv 2)
set_option maxHeartbeats 4000000 in
theorem sSolve_spec {xs : List Int} (h : SV H ow p n k f) (hn7 : 2 ^ n ≤ 128 ∨ ∃ m, QHs n (gcode f.gl) xs m) (hr2 : f.rounds ≤ 2) {u : Nat} (hbd : Bd f u) (hu : u ≤ 3000) (hgl : f.gl.length ≤ 30000) {b : Int} (hb : b < 0)
    {a : Option Addr} {c : Nat} (hx : Rn H a xs) (hxo : ∀ b o, a = some ⟨b, o, none⟩ → b < H.size ∧ ow b = 0) (hlen : xs.length ≤ 1000) :
    CallF Tryz.prog 18 [hp p, iv b, .slice a xs.length c] H (fun v H' => ∃ ow' f', SV H' ow' p n k f' ∧ Ex H ow H' ow' ∧ f'.given = f.given ∧ f'.gs = f.gs ∧ f'.gl = f.gl ∧ Bd f' (u + 400) ∧ (2 ^ n ≤ 64 → f'.rounds = f.rounds) ∧ (f.dead = true → f'.dead = true) ∧ (v ≠ iv 0 → f'.loaded = f.gl.length) ∧ SolA n (gcode f.gl) xs H' ow' f f' v) NoP := by
  have hn := h.sd.sb.n
  obtain ⟨G1, hG1⟩ : ∃ G1, H.push (.cells #[iv b] 3) = G1 := ⟨_, rfl⟩
  have f1 : Fr [] H G1 := by rw [← hG1]; exact Fr.push
  have b1 : Blk G1 H.size 3 [iv b] := by rw [← hG1]; exact Blk.new rfl
  have m1 := h.sd.sb.m.out f1 (by simp)
  have e01 : Ex H ow G1 ow := Ex.of (Sm.of (R := fun _ => False) f1 (by simp)) (by simp)
  have hA0 : ow H.size = 0 := h.sd.sb.m.free (Nat.le_refl _)
  obtain ⟨H2, w2, (m2 : RM _ _ _ _ _ _), e2⟩ := m1.putModel (.slice none 0 0)
  obtain ⟨H3, w3, (m3 : RM _ _ _ _ _ _), e3⟩ := m2.putCore (.slice none 0 0)
  have e03 := e01.trans (e2.trans e3)
  have x3 : Rn H3 a xs := e03.rn hx hxo
  refine callF_of Tryz.func18 rfl Tryz.ntmps18 Tryz.results18 (by decide) rfl ?_
  simp (disch := omega) only [go_sem, ↓cw_block, dsB_of]
  rw [hG1]
  simp (disch := omega) only [go_sem, ↓cw_block, dsB_of, w2, w3]
  refine call_to (sAssume_spec m3 hn x3 hlen) ?_
  rintro v H4 ⟨f4, hv⟩
  have m4 := m3.out f4 (by simp)
  have e04 : Ex H ow H4 ow := e03.trans (Ex.of (Sm.of (R := fun _ => False) f4 (by simp)) (by simp))
  have sb4 : SB H4 ow p n k ((f.uModel (.slice none 0 0)).uCore (.slice none 0 0)) := ⟨m4, ⟨h.sd.sb.r.vals, h.sd.sb.r.lv⟩, h.sd.sb.inv, h.sd.sb.wi, h.sd.sb.le, h.sd.sb.hin, h.sd.sb.sn, h.sd.sb.stp, h.sd.sb.n⟩
  have sd4 : SD H4 ow p n k ((f.uModel (.slice none 0 0)).uCore (.slice none 0 0)) (gcode (f.gl.take f.loaded)) := ⟨sb4, h.sd.st, h.sd.ok, h.sd.no⟩
  obtain ⟨q0, hq0, hqu⟩ := hbd.ls
  have hbc := hbd.C
  have hbf := hbd.conf
  have hbl := hbd.lrn
  have hbr := hbd.room
  have hld := h.ld
  rcases hv with ⟨hbad, rfl⟩ | ⟨hall, w, ds, rfl, v4, o4, hds, hdl, hd0⟩
  · simp (disch := omega) only [go_sem, ↓cw_block, dsB_of, dsB_of]
    exact fin ⟨ow, _, ⟨sd4, h.cn, h.ld⟩, e04, rfl, rfl, rfl, ⟨by show f.conf ≤ _; omega, by show f.lrn.length ≤ _; omega, ⟨q0, hq0, by omega⟩, by show f.C.length ≤ f.loaded + _; omega, hbr, hr2⟩, fun _ => rfl, id, fun e => absurd rfl e, .bad hbad rfl⟩
  · simp (disch := omega) only [go_sem, ↓cw_block, dsB_of]
    refine call_to (sLoad_spec sd4 h.cn h.ld (by show f.C.length + f.gl.length ≤ _; omega)) ?_
    rintro v H5 ⟨rfl, ow5, f5, sd5, e5, k5, ld5, C5, dd5, hh5⟩
    have k5' := k5
    simp only [Cf.key7, Prod.mk.injEq] at k5'
    obtain ⟨x1, x2, x3', x4, x5, ⟨x6, x7, x8⟩, x9, x10, x11⟩ := k5'
    have C5' : f5.C.length ≤ f.C.length + (f.gl.length - f.loaded) := C5
    have e05 := e04.trans e5
    have ld5' : f5.loaded = f.gl.length := ld5
    have c4 : cellH H5 ⟨p, 4, none⟩ = some (iv f5.conf) := sd5.sb.m.c 4
    obtain ⟨H6, hH6⟩ : ∃ H6, H5.push (.cells #[iv 0] 3) = H6 := ⟨_, rfl⟩
    have f6 : Fr [] H5 H6 := by rw [← hH6]; exact Fr.push
    have b6 : Blk H6 H5.size 3 [iv 0] := by rw [← hH6]; exact Blk.new rfl
    have w6 := b6.wr (i := 0) (by simp) (iv f5.conf)
    generalize hH7 : setH H6 ⟨H5.size, 0, none⟩ (iv f5.conf) = H7 at w6
    have f7 : Fr [H5.size] H6 H7 := by rw [← hH7]; exact Fr.set (by simp)
    have z5 : ow5 H5.size = 0 := sd5.sb.m.free (Nat.le_refl _)
    have m7 := (sd5.sb.m.out f6 (by simp)).out f7 (by simpa using z5)
    have e57 : Ex H5 ow5 H7 ow5 := (Ex.of (Sm.of (R := fun _ => False) f6 (by simp)) (by simp) : Ex H5 ow5 H6 ow5).fresh f7 (by simp)
    have e07 := e05.trans e57
    have sb7 : SB H7 ow5 p n k f5 := ⟨m7, sd5.sb.r, sd5.sb.inv, sd5.sb.wi, sd5.sb.le, sd5.sb.hin, sd5.sb.sn, sd5.sb.stp, sd5.sb.n⟩
    have e47 : Ex H4 ow H7 ow5 := e5.trans e57
    have ho4 : ∀ b ∈ own w, ow b = 0 := fun b hb => m3.free (o4 b hb)
    have v7 := e47.vec v4 ho4
    have ho7 : ∀ b ∈ own w, ow5 b = 0 := fun b hb => by rw [e47.ow b (v4.lt b hb)]; exact ho4 b hb
    have hall' := List.all_eq_true.1 hall
    have hcd : ∀ x ∈ xs, x ≠ 0 ∧ x.natAbs ≤ n := fun x hx => by
      have := hall' x hx
      unfold okA at this
      rw [decide_eq_true_eq] at this
      omega
    have hxc : ∀ y ∈ ds.map codeN, isC n y := fun y hy => by
      obtain ⟨x, hx, rfl⟩ := List.mem_map.1 hy
      have := hcd x ((hds x).1 hx)
      exact codeN_isC this.1 this.2
    simp (disch := omega) only [go_sem, ↓cw_block, dsB_of, c4]
    rw [hH6]
    simp (disch := omega) only [go_sem, ↓cw_block, dsB_of, w6]
    refine call_to (sRun_spec (f := f5) (G := gcode f.gl) sb7 sd5.st sd5.ok sd5.no (xs := ds.map codeN) v7 ho7 hxc (by rw [List.length_map]; omega) (g := 38) (caps := [.pointer (some ⟨H.size, 0, none⟩), .pointer (some ⟨H5.size, 0, none⟩)]) ?_ (hn7.imp id fun ⟨m, hm⟩ => ⟨m, hm ds hds hdl hd0⟩) (by rw [x5]; exact hr2) (q := q0) (by rw [x3']; exact hq0) (by omega) (by rw [x2, x4]; show ((f.lrn.length : Nat) : Int) + 400 ≤ f.room; omega) (by rw [x4]; show f.room ≤ _; omega) (by omega) (by rw [x1]; show f.conf ≤ _; omega)) ?_
    · intro H1 ow1 x ex
      have e17 : Ex G1 ow H7 ow5 := ((e2.trans e3).trans (Ex.of (Sm.of (R := fun _ => False) f4 (by simp)) (by simp))).trans e47
      have b7 := e17.blk b1 hA0
      have hA5 : ow5 H.size = 0 := by rw [e17.ow H.size b1.lt]; exact hA0
      exact sOver_spec hb (ex.blk b7 hA5)
    · rintro v H8 ⟨ow8, f8, d, r, sb8, st8, ok8, e8, nm8, d8, r8, q8, dd8, qt8, qd8, ans⟩
      have e08 := e07.trans e8
      have ld8 : f8.loaded = f.gl.length := nm8.loaded.trans ld5'
      have gl8 : f8.gl = f.gl := nm8.giv.2.2.trans x8
      have gs8 : f8.gs = f.gs := nm8.giv.2.1.trans x7
      have gi8 : f8.given = f.given := nm8.giv.1.trans x6
      have no8 : f8.dead = true → ∀ m, Mdl m → ¬ AllB m (gcode f.gl) := fun hd => by
        cases ans with
        | dead h1 h2 => exact h2
        | sat _ _ h1 => rw [hd] at h1; cases h1
        | unsat _ _ _ h1 => rw [hd] at h1; cases h1
      have bd8 : Bd f8 (u + 399) := ⟨by rw [nm8.conf, x1]; show f.conf + d ≤ _; omega, by have := nm8.lrn; rw [x2] at this; have h2 : f8.lrn.length ≤ f.lrn.length + d := this; omega, ⟨q0 + d, by rw [nm8.ls, x3']; show f.ls.length + 2 * d = _; omega, by omega⟩, by have := nm8.C; rw [ld8]; omega, by rw [nm8.room, x4]; exact hbr, by rw [nm8.rounds]; exact r8⟩
      have rd8 : 2 ^ n ≤ 64 → f8.rounds = f.rounds := fun h64 => by rw [nm8.rounds, (q8 h64).1, x5]; rfl
      have dm8 : f.dead = true → f8.dead = true := fun e => dd8 (dd5 e)
      have hq8 : Quiet n (gcode f.gl) xs → f8.ls = f.ls := by
        rintro (⟨m, hm⟩ | hno)
        · by_cases hd : f5.dead = true
          · have := (hm ds hds hdl hd0)
            exact absurd this.all (sd5.no hd m this.mdl)
          · exact ((qt8 (by simpa using hd) m (hm ds hds hdl hd0)).2).trans x3'
        · by_cases hd : f5.dead = true
          · exact (qd8 hd).2.trans x3'
          · have hd' : f5.dead = false := by simpa using hd
            exact (hno _ _ _ _ (sd5.ok hd') (hh5 hd')).elim
      have sd8 : SD H8 ow8 p n k f8 (gcode f.gl) := ⟨sb8, st8, fun e => (ok8 e).1, no8⟩
      have fin8 : ∀ {Hx : Heap} {owx : Nat → Nat} {fx : Cf} {vx : Value}, SD Hx owx p n k fx (gcode f.gl) → Ex H ow Hx owx → fx.key7 = f8.key7 ∨ True → fx.given = f8.given → fx.gs = f8.gs → fx.gl = f8.gl → fx.loaded = f8.loaded → fx.rounds = f8.rounds → fx.dead = f8.dead → Bd fx (u + 400) → SolA n (gcode f.gl) xs Hx owx f fx vx →
          ∃ ow' f', SV Hx ow' p n k f' ∧ Ex H ow Hx ow' ∧ f'.given = f.given ∧ f'.gs = f.gs ∧ f'.gl = f.gl ∧ Bd f' (u + 400) ∧ (2 ^ n ≤ 64 → f'.rounds = f.rounds) ∧ (f.dead = true → f'.dead = true) ∧ (vx ≠ iv 0 → f'.loaded = f.gl.length) ∧ SolA n (gcode f.gl) xs Hx ow' f f' vx := by
        intro Hx owx fx vx h1 h2 _ h3 h4 h5 h6 h7 h8 h9 h10
        refine ⟨owx, fx, ⟨?_, ?_, ?_⟩, h2, h3.trans gi8, h4.trans gs8, h5.trans gl8, h9, fun e => h7.trans (rd8 e), fun e => h8.trans (dm8 e), fun _ => h6.trans ld8, h10⟩
        · rw [h5, gl8, gcode_len (by rw [h6, ld8]; exact Nat.le_refl _)]; exact h1
        · rw [h5, gl8]; exact h.cn
        · rw [h6, ld8, h5, gl8]; exact Nat.le_refl _
      have bd8' : Bd f8 (u + 400) := ⟨by have := bd8.conf; omega, by have := bd8.lrn; omega, by obtain ⟨q, h1, h2⟩ := bd8.ls; exact ⟨q, h1, by omega⟩, by have := bd8.C; omega, bd8.room, bd8.rd⟩
      -- a refutation
      have refu : ∀ (cs : List Nat) (cv : Value), Vec H8 3 1 cv ((cs.map litI).map iv) → (∀ y ∈ cs, isC n y) → cs.length ≤ n + 1 → (cs = [] ∧ f8.dead = true ∨ cs ≠ [] ∧ f8.dead = false ∧ ∃ x ∈ xs, codeN x ∈ cs) → (∀ m, Mdl m → AllB m (gcode f.gl) → ¬ ∀ y ∈ cs, m y = true) → (Quiet n (gcode f.gl) xs → ∀ y ∈ cs, ∃ x ∈ xs, y = codeN x) →
          CallF Tryz.prog 40 [hp p, cv] H8 (fun v H' => v = .tuple #[] ∧ ∃ ow' f', SV H' ow' p n k f' ∧ Ex H ow H' ow' ∧ f'.given = f.given ∧ f'.gs = f.gs ∧ f'.gl = f.gl ∧ Bd f' (u + 400) ∧ (2 ^ n ≤ 64 → f'.rounds = f.rounds) ∧ (f.dead = true → f'.dead = true) ∧ (iv 2 ≠ iv 0 → f'.loaded = f.gl.length) ∧ SolA n (gcode f.gl) xs H' ow' f f' (iv 2)) NoP := by
        intro cs cv hcv hcc hcl hcs hu hqc
        obtain ⟨q, hq, hqu'⟩ := bd8.ls
        refine (sRefuted_spec sb8.m hcv (fun x hx => by
          obtain ⟨y, hy, rfl⟩ := List.mem_map.1 hx
          exact litI_ok (hcc y hy) hn) (by rw [List.length_map]; omega) hq (by omega)).to ?_
        rintro v H9 ⟨rfl, ow9, cw, ys, idle, hnf, v9, o9, e9, hor⟩
        refine ⟨rfl, ?_⟩
        rcases hor with ⟨rfl, m9⟩ | ⟨rfl, lv, w, m9, w9, ow9'⟩
        · refine fin8 (fx := f8.uCore cw) ⟨⟨m9, ⟨sb8.r.vals, sb8.r.lv⟩, sb8.inv, sb8.wi, sb8.le, sb8.hin, sb8.sn, sb8.stp, sb8.n⟩, st8, sd8.ok, sd8.no⟩ (e08.trans e9) (.inr trivial) rfl rfl rfl rfl rfl rfl ⟨bd8'.conf, bd8'.lrn, bd8'.ls, bd8'.C, bd8'.room, bd8'.rd⟩ ?_
          exact .unsat cs ys true hall hcs hcc hu hqc hnf v9 (fun b hb => (o9 b hb).2) ⟨f8.ls, hq8, .inl ⟨rfl, rfl⟩⟩
        · refine fin8 (fx := (f8.uCore cw).uLines lv (f8.ls ++ [.bool false, w])) ⟨⟨m9, ⟨sb8.r.vals, sb8.r.lv⟩, sb8.inv, sb8.wi, sb8.le, sb8.hin, sb8.sn, sb8.stp, sb8.n⟩, st8, sd8.ok, sd8.no⟩ (e08.trans e9) (.inr trivial) rfl rfl rfl rfl rfl rfl ⟨bd8'.conf, bd8'.lrn, ⟨q + 1, by show (f8.ls ++ [_, w]).length = _; simp; omega, by omega⟩, bd8'.C, bd8'.room, bd8'.rd⟩ ?_
          exact .unsat cs ys false hall hcs hcc hu hqc hnf v9 (fun b hb => (o9 b hb).2) ⟨f8.ls, hq8, .inr ⟨rfl, w, rfl, w9, fun b hb => (ow9' b hb).2⟩⟩
      cases ans with
      | dead h1 h2 =>
        simp (disch := omega) only [go_sem, ↓cw_block, dsB_of]
        refine call_to (refu [] (.slice none 0 0) Vec.nil (by simp) (by simp) (.inl ⟨rfl, h1⟩) (fun m hm hG _ => h2 m hm hG) (fun _ y hy => by simp at hy)) ?_
        rintro v H9 ⟨rfl, hres⟩
        simp (disch := omega) only [go_sem, ↓cw_block, dsB_of, dsB_of]
        exact fin hres
      | sat md m h1 h2 h3 h4 h5 h6 h7 =>
        simp (disch := omega) only [go_sem, ↓cw_block, dsB_of, dsB_of]
        refine fin (fin8 sd8 e08 (.inr trivial) rfl rfl rfl rfl rfl rfl bd8' (.sat md m hall h1 h2 h3 (fun x hx => h4 _ (List.mem_map.2 ⟨x, (hds x).2 hx, rfl⟩)) h5 h6 h7 (nm8.cor.trans x10) hq8))
      | unsat core x dd h1 h2 h3 h4 h5 h6 h7 h8 =>
        simp (disch := omega) only [go_sem, ↓cw_block, dsB_of]
        refine call_to (refu (x :: dd) core h4 h3 (by simp; omega) (.inr ⟨by simp, h1, ?_⟩) h7 ?_) ?_
        · obtain ⟨z, hz, rfl⟩ := List.mem_map.1 h2
          exact ⟨z, (hds z).1 hz, by simp⟩
        · rintro (⟨m, hm⟩ | hno) y hy
          · have := h8 m (hm ds hds hdl hd0) y hy
            obtain ⟨z, hz, rfl⟩ := List.mem_map.1 this
            exact ⟨z, (hds z).1 hz, rfl⟩
          · exfalso
            by_cases hd : f5.dead = true
            · rw [dd8 hd] at h1; cases h1
            · have hd' : f5.dead = false := by simpa using hd
              exact hno _ _ _ _ (sd5.ok hd') (hh5 hd')
        rintro v H9 ⟨rfl, hres⟩
        simp (disch := omega) only [go_sem, ↓cw_block, dsB_of, dsB_of]
        exact fin hres
end
end Go.Proofs.YtofooamimiijlaaGreat

namespace Go.Proofs.YtofooamimiijlaaGreat
open Go.HL HM Go.Sat
set_option maxRecDepth 10000
set_option linter.unusedSimpArgs false
set_option linter.unusedVariables false

section
variable {H : Heap} {ow : Nat → Nat} {p n : Nat} {k : Bk} {f : Cf} {G : List (List Nat)}
theorem nst {S T : Nat} {L : List Value} (hb : Blk H S T L) {i : Nat} (hi : i < L.length) (v : Value) : ∃ H', wr H ⟨S, i, none⟩ v = some H' ∧ Blk H' S T (L.set i v) ∧ H'.size = H.size ∧ Fr [S] H H' :=
  ⟨_, hb.wr hi v, hb.set i v, size_setH, Fr.set (by simp)⟩
theorem npu {S T : Nat} {L : List Value} (hb : Blk H S T L) {i : Nat} (hi : i < L.length) (v : Value) (vs : List Value) (t : Nat) :
    ∃ H', wr (H.push (.cells vs.toArray t)) ⟨S, i, none⟩ v = some H' ∧ Blk H' S T (L.set i v) ∧ H'.size = H.size + 1 ∧ Fr [S] H H' ∧ Blk H' H.size t vs := by
  have h1 := hb.push (.cells vs.toArray t)
  have fp : Fr [] H (H.push (.cells vs.toArray t)) := Fr.push
  have fs : Fr [S] (H.push (.cells vs.toArray t)) (setH (H.push (.cells vs.toArray t)) ⟨S, i, none⟩ v) := Fr.set (by simp)
  refine ⟨_, h1.wr hi v, h1.set i v, by rw [size_setH]; simp, ?_, ?_⟩
  · exact ⟨Nat.le_trans fp.size fs.size, fun b hb hne => by rw [fs.same b (Nat.lt_of_lt_of_le hb fp.size) hne, fp.same b hb (by simp)]⟩
  · have h2 : Blk (H.push (.cells vs.toArray t)) H.size t vs := Blk.new rfl
    exact h2.set_other (show H.size ≠ S from Nat.ne_of_gt hb.lt)
def newCf (n : Nat) (os pl : List Int) : Cf := { given := .slice none 0 0, lines := .slice none 0 0, model := .slice none 0 0, core := .slice none 0 0, trail := .slice none 0 0, starts := .slice none 0 0, learned := .slice none 0 0, gs := [], gl := [], ls := [], loaded := 0, conf := 0, head := 0, step := 1024, room := 4000, rounds := 0, dead := false, lrn := [], vals := List.replicate (2 * n + 2) 0, lvls := List.replicate (n + 1) 0, seen := List.replicate (n + 1) false, last := List.replicate (n + 1) false, rea := fun _ => none, tr := [], st := [], m := n, os := os, pl := pl, ac := List.replicate (n + 1) 0, ws := fun _ => .slice none 0 0, w := fun _ => [], C := [], lits := fun _ => [], lb := fun _ => .slice none 0 0, l2 := fun _ => 0 }
def newSt : St := ⟨[], [], fun _ => none, fun _ => []⟩
theorem si_new : SI n newSt [] (fun _ => []) [] 0 :=
  ⟨⟨⟨by simp [newSt], by simp [newSt]⟩, by simp [newSt], by simp [newSt], fun i x c h => by simp [newSt] at h, fun i x h => by simp [newSt] at h⟩, ⟨by simp, by simp, by simp, by simp, fun i x c h => by simp [newSt] at h⟩, fun c hc => by simp at hc, ⟨fun m _ _ => ⟨by simp, fun i x h => by simp [newSt] at h⟩, by simp⟩, by simp [newSt], by simp [newSt]⟩
theorem bt_rep {m v : Nat} : bt (List.replicate m false) v = false := by
  unfold bt
  by_cases h : v < m
  · simp [h]
  · simp [h]
theorem vals_new : newSt.vals n = List.replicate (2 * n + 2) 0 := by
  apply List.ext_getElem (by simp [St.vals])
  intro i h1 h2
  simp [St.vals, St.val, newSt]
theorem rea_new : (List.range (n + 1)).map (fun _ => pn none) = List.replicate (n + 1) (Value.pointer none) := by
  apply List.ext_getElem (by simp)
  intro i h1 h2
  simp [pn]
theorem ws_new : (List.range (2 * n + 2)).map (fun _ => Value.slice none 0 0) = List.replicate (2 * n + 2) (Value.slice none 0 0) := by
  apply List.ext_getElem (by simp)
  intro i h1 h2
  simp
set_option maxHeartbeats 4000000 in
theorem sNew_spec (hn : n ≤ 1000) :
    CallF Tryz.prog 14 [iv n] H (fun v H' => Fr [] H H' ∧ ∃ ow p k f, v = .tuple #[hp p, iv 0] ∧ (∀ b, b < H.size → ow b = 0) ∧ SV H' ow p n k f ∧ f.gl = [] ∧ f.rounds = 0 ∧ Bd f 0 ∧ f.dead = false ∧ f.ls = []) NoP := by
  refine callF_of Tryz.func14 rfl Tryz.ntmps14 Tryz.results14 (by decide) rfl ?_
  simp (disch := omega) only [go_sem, ↓cw_block, dsB_of]
  refine call_to (new_yes (n := n) (by omega)) ?_
  rintro v H1 ⟨f1, ho, hb, hp', ha, os, pl, rfl, hsz, hg, hpl⟩
  have e2 : (2 * (n : Int) + 2).toNat = 2 * n + 2 := by omega
  have e1 : ((n : Int) + 1).toNat = n + 1 := by omega
  obtain ⟨H2, hH2⟩ : ∃ H2, H1.push (.cells #[iv n, .slice none 0 0, iv 0, .slice none 0 0, iv 0, .slice none 0 0, .slice none 0 0, .pointer none, .slice none 0 0, .slice none 0 0, .slice none 0 0, .slice none 0 0, .slice none 0 0, .slice none 0 0, .slice none 0 0, .slice none 0 0, iv 0, iv 0, .slice none 0 0, iv 0, iv 0, .bool false] 70) = H2 := ⟨_, rfl⟩
  have f2 : Fr [] H1 H2 := by rw [← hH2]; exact Fr.push
  have b2 : Blk H2 H1.size 70 [iv n, .slice none 0 0, iv 0, .slice none 0 0, iv 0, .slice none 0 0, .slice none 0 0, .pointer none, .slice none 0 0, .slice none 0 0, .slice none 0 0, .slice none 0 0, .slice none 0 0, .slice none 0 0, .slice none 0 0, .slice none 0 0, iv 0, iv 0, .slice none 0 0, iv 0, iv 0, .bool false] := by rw [← hH2]; exact Blk.new rfl
  have z2 : H2.size = H1.size + 1 := by rw [← hH2]; simp
  obtain ⟨H3, w3, b3, z3, f3⟩ := nst b2 (i := 7) (by simp) (pv ho)
  simp only [List.set_cons_succ, List.set_cons_zero] at b3
  obtain ⟨H4, w4, b4, z4, f4, k4⟩ := npu b3 (i := 9) (by simp) (.slice (some ⟨H3.size, 0, none⟩) (2 * n + 2) (2 * n + 2)) (List.replicate (2 * n + 2) (.int .i8 0)) 103
  simp only [List.set_cons_succ, List.set_cons_zero] at b4
  obtain ⟨H5, w5, b5, z5, f5, k5⟩ := npu b4 (i := 8) (by simp) (.slice (some ⟨H4.size, 0, none⟩) (2 * n + 2) (2 * n + 2)) (List.replicate (2 * n + 2) (.slice none 0 0)) 66
  simp only [List.set_cons_succ, List.set_cons_zero] at b5
  obtain ⟨H6, w6, b6, z6, f6, k6⟩ := npu b5 (i := 10) (by simp) (.slice (some ⟨H5.size, 0, none⟩) (n + 1) (n + 1)) (List.replicate (n + 1) (iv 0)) 3
  simp only [List.set_cons_succ, List.set_cons_zero] at b6
  obtain ⟨H7, w7, b7, z7, f7, k7⟩ := npu b6 (i := 11) (by simp) (.slice (some ⟨H6.size, 0, none⟩) (n + 1) (n + 1)) (List.replicate (n + 1) (.pointer none)) 95
  simp only [List.set_cons_succ, List.set_cons_zero] at b7
  obtain ⟨H8, w8, b8, z8, f8, k8⟩ := npu b7 (i := 12) (by simp) (.slice (some ⟨H7.size, 0, none⟩) (n + 1) (n + 1)) (List.replicate (n + 1) (.bool false)) 4
  simp only [List.set_cons_succ, List.set_cons_zero] at b8
  obtain ⟨H9, w9, b9, z9, f9, k9⟩ := npu b8 (i := 13) (by simp) (.slice (some ⟨H8.size, 0, none⟩) (n + 1) (n + 1)) (List.replicate (n + 1) (.bool false)) 4
  simp only [List.set_cons_succ, List.set_cons_zero] at b9
  obtain ⟨H10, w10, b10, z10, f10⟩ := nst b9 (i := 17) (by simp) (iv 1024)
  simp only [List.set_cons_succ, List.set_cons_zero] at b10
  obtain ⟨H11, w11, b11, z11, f11⟩ := nst b10 (i := 19) (by simp) (iv 4000)
  simp only [List.set_cons_succ, List.set_cons_zero] at b11
  simp (disch := omega) only [go_sem, ↓cw_block, dsB_of]
  rw [hH2]
  simp (disch := omega) only [go_sem, ↓cw_block, dsB_of, w3, w4, w5, w6, w7, w8, w9, w10, w11, e1, e2, dsB_of]
  obtain ⟨s, hs⟩ : ∃ s, s = H1.size := ⟨_, rfl⟩
  rw [← hs] at b11 f3 f4 f5 f6 f7 f8 f9 f10 f11
  have l1 : ho < s := by rw [hs]; exact hg.ha.self.lt
  have l2 : hb < s := by rw [hs]; exact hg.ha.io.lt
  have l3 : hp' < s := by rw [hs]; exact hg.ha.ip.lt
  have l4 : ha < s := by rw [hs]; exact hg.ha.ia.lt
  have hne := hg.ha.ne
  have hsz0 := f1.size
  have g10 := f10.trans f11
  have g9 := f9.trans g10
  have g8 := f8.trans g9
  have g7 := f7.trans g8
  have g6 := f6.trans g7
  have g5 := f5.trans g6
  have g4 := f4.trans g5
  have g3 := f3.trans g4
  have q4 := g5.blk k4 (by simp; omega)
  have q5 := g6.blk k5 (by simp; omega)
  have q6 := g7.blk k6 (by simp; omega)
  have q7 := g8.blk k7 (by simp; omega)
  have q8 := g9.blk k8 (by simp; omega)
  have q9 := g10.blk k9 (by simp; omega)
  have hg11 := (hg.frame f2 (by simp) (by simp) (by simp) (by simp)).frame g3 (by simp; omega) (by simp; omega) (by simp; omega) (by simp; omega)
  have s3 : H3.size = s + 1 := by omega
  have s4 : H4.size = s + 2 := by omega
  have s5 : H5.size = s + 3 := by omega
  have s6 : H6.size = s + 4 := by omega
  have s7 : H7.size = s + 5 := by omega
  have s8 : H8.size = s + 6 := by omega
  have s11 : H11.size = s + 7 := by omega
  rw [s3] at b11 q4
  rw [s4] at b11 q5
  rw [s5] at b11 q6
  rw [s6] at b11 q7
  rw [s7] at b11 q8
  rw [s8] at b11 q9
  obtain ⟨ow, how⟩ : ∃ ow : Nat → Nat, ∀ b, ow b = if b = s then 1 else if b = s + 1 then 2 else if b = s + 2 then 7 else if b = s + 3 then 3 else if b = s + 4 then 4 else if b = s + 5 then 5 else if b = s + 6 then 6 else if b = ho then 11 else if b = hb then 12 else if b = hp' then 13 else if b = ha then 14 else 0 := ⟨_, fun _ => rfl⟩
  have f011 : Fr [] H H11 := ⟨by omega, fun b hb _ => by rw [g3.same b (by omega) (by simp; omega), f2.same b (by omega) (by simp), f1.same b hb (by simp)]⟩
  obtain ⟨nl, hnl⟩ : ∃ nl : Value, nl = .slice none 0 0 := ⟨_, rfl⟩
  obtain ⟨f, hf⟩ : ∃ f : Cf, f = newCf n os pl := ⟨_, rfl⟩
  have ow0 : ow s = 1 := by rw [how, if_pos rfl]
  have ow1 : ow (s + 1) = 2 := by rw [how, if_neg (by omega), if_pos rfl]
  have ow2 : ow (s + 2) = 7 := by rw [how, if_neg (by omega), if_neg (by omega), if_pos rfl]
  have ow3 : ow (s + 3) = 3 := by rw [how, if_neg (by omega), if_neg (by omega), if_neg (by omega), if_pos rfl]
  have ow4 : ow (s + 4) = 4 := by rw [how, if_neg (by omega), if_neg (by omega), if_neg (by omega), if_neg (by omega), if_pos rfl]
  have ow5 : ow (s + 5) = 5 := by rw [how, if_neg (by omega), if_neg (by omega), if_neg (by omega), if_neg (by omega), if_neg (by omega), if_pos rfl]
  have ow6 : ow (s + 6) = 6 := by rw [how, if_neg (by omega), if_neg (by omega), if_neg (by omega), if_neg (by omega), if_neg (by omega), if_neg (by omega), if_pos rfl]
  have ow7 : ow ho = 11 := by rw [how, if_neg (by omega), if_neg (by omega), if_neg (by omega), if_neg (by omega), if_neg (by omega), if_neg (by omega), if_neg (by omega), if_pos rfl]
  have ow8 : ow hb = 12 := by rw [how, if_neg (by omega), if_neg (by omega), if_neg (by omega), if_neg (by omega), if_neg (by omega), if_neg (by omega), if_neg (by omega), if_neg (by omega), if_pos rfl]
  have ow9 : ow hp' = 13 := by rw [how, if_neg (by omega), if_neg (by omega), if_neg (by omega), if_neg (by omega), if_neg (by omega), if_neg (by omega), if_neg (by omega), if_neg (by omega), if_neg (by omega), if_pos rfl]
  have ow10 : ow ha = 14 := by rw [how, if_neg (by omega), if_neg (by omega), if_neg (by omega), if_neg (by omega), if_neg (by omega), if_neg (by omega), if_neg (by omega), if_neg (by omega), if_neg (by omega), if_neg (by omega), if_pos rfl]
  have hmem : RM H11 ow s n ⟨s + 1, s + 3, s + 4, s + 5, s + 6, s + 2, ho, hb, hp', ha⟩ (newCf n os pl) := by
    have hvr : ∀ r e z, VR H11 ow r e z (.slice none 0 0) [] := fun r e z => ⟨Vec.nil, by simp [own]⟩
    refine ⟨⟨b11, ?_⟩, ⟨?_, ?_⟩, ⟨?_, ?_⟩, ⟨?_, ?_⟩, ⟨?_, ?_⟩, ⟨?_, ?_⟩, ⟨?_, ?_⟩, fun x hx => hvr _ _ _, hvr _ _ _, hvr _ _ _, hvr _ _ _, ⟨hg11, ?_, ?_, ?_, ?_⟩, hvr _ _ _, hvr _ _ _, fun i v g h1 => ?_, fun c hc => ?_, fun b hb => ?_, ?_, ?_, ?_, ?_, rfl⟩
    · exact ow0
    · show Blk H11 (s + 1) _ ((List.replicate (2 * n + 2) (0 : Int)).map (Value.int .i8))
      rw [List.map_replicate]; exact q4
    · exact ow1
    · show Blk H11 (s + 3) _ (nv (List.replicate (n + 1) 0))
      unfold nv; rw [List.map_replicate]; exact q6
    · exact ow3
    · show Blk H11 (s + 4) _ ((List.range (n + 1)).map (fun _ => pn none))
      rw [rea_new]; exact q7
    · exact ow4
    · show Blk H11 (s + 5) _ ((List.replicate (n + 1) false).map Value.bool)
      rw [List.map_replicate]; exact q8
    · exact ow5
    · show Blk H11 (s + 6) _ ((List.replicate (n + 1) false).map Value.bool)
      rw [List.map_replicate]; exact q9
    · exact ow6
    · show Blk H11 (s + 2) _ ((List.range (2 * n + 2)).map (fun _ => Value.slice none 0 0))
      rw [ws_new]; exact q5
    · exact ow2
    · exact ow7
    · exact ow8
    · exact ow9
    · exact ow10
    · cases h1
    · cases hc
    · rw [s11]
      rcases Nat.lt_or_ge b (s + 7) with hlt | hge
      · exact hlt
      · exact absurd (by rw [how, if_neg (by omega), if_neg (by omega), if_neg (by omega), if_neg (by omega), if_neg (by omega), if_neg (by omega), if_neg (by omega), if_neg (by omega), if_neg (by omega), if_neg (by omega), if_neg (by omega)]) hb
    · exact List.length_replicate
    · exact List.length_replicate
    · exact List.length_replicate
    · exact List.length_replicate
  rw [← hf] at hmem
  have hsi : SI n f.s f.C f.w [] f.head := by rw [hf]; exact si_new
  have hSB : SB H11 ow s n ⟨s + 1, s + 3, s + 4, s + 5, s + 6, s + 2, ho, hb, hp', ha⟩ f := by
    refine ⟨hmem, ?_, hsi.inv, hsi.wi, hsi.le, ?_, ?_, ?_, hn⟩
    · rw [hf]
      refine ⟨(vals_new (n := n)).symm, fun i x h => ?_⟩
      cases h
    · rw [hf]
      intro v h1 h2 _
      exact hpl v h1 h2
    · rw [hf]
      intro v hv
      exact bt_rep
    · rw [hf]; exact ⟨by show (1024 : Int) ≤ 1024; omega, by show (1024 : Int) ≤ _; omega⟩
  have hd : f.dead = false := by rw [hf]; rfl
  have hgl : f.gl = [] := by rw [hf]; rfl
  have hlo : f.loaded = 0 := by rw [hf]; rfl
  have hgc : gcode (f.gl.take f.loaded) = [] := by rw [hgl, hlo]; rfl
  refine fin ⟨f011, ow, s, _, f, by rw [hs], fun b hb => ?_, ⟨⟨hSB, by rw [hf]; rfl, fun _ => by rw [hgc]; exact hsi, fun e => by rw [hd] at e; cases e⟩, by rw [hgl]; simp, by rw [hlo]; omega⟩, hgl, by rw [hf]; rfl, ⟨by rw [hf]; exact Nat.le_refl 0, by rw [hf]; exact Nat.le_refl 0, ⟨0, by rw [hf]; rfl, Nat.le_refl 0⟩, by rw [hf]; exact Nat.le_refl 0, by rw [hf]; rfl, by rw [hf]; exact Nat.zero_le 2⟩, hd, by rw [hf]; rfl⟩
  rw [how, if_neg (by omega), if_neg (by omega), if_neg (by omega), if_neg (by omega), if_neg (by omega), if_neg (by omega), if_neg (by omega), if_neg (by omega), if_neg (by omega), if_neg (by omega), if_neg (by omega)]
end
end Go.Proofs.YtofooamimiijlaaGreat

