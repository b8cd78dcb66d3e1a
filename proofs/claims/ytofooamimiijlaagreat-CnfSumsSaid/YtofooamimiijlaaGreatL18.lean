/- The solver: a search. -/
import Derived.Test.YtofooamimiijlaaGreatL17
namespace Go.Dfr
open Go.HL
theorem opsWpD_nil {n : Nat} {P : Program} {ops : Array Oper} {f : Operand} {args : Array Operand} {Q : Exit → En → Heap → Prop} {ρ : En} {H : Heap} : opsWpD n P ops f args Q [] ρ H = dfrK f args Q ρ H := (rfl)
theorem opsWpD_cons {n : Nat} {P : Program} {ops : Array Oper} {f : Operand} {args : Array Operand} {Q : Exit → En → Heap → Prop} {o : Oper} {l : List Oper} {ρ : En} {H : Heap} : opsWpD n P ops f args Q (o :: l) ρ H = opG n P ops o ρ H (opsWpD n P ops f args Q l) Q := (rfl)
end Go.Dfr
namespace Go.Proofs.YtofooamimiijlaaGreat
open Go.HL HM Go.Sat
set_option maxRecDepth 10000
set_option linter.unusedSimpArgs false
set_option linter.unusedVariables false

theorem meas1 {P n N N' t t' : Nat} (hN : N < N') (hN' : N' ≤ P) (ht : t ≤ n) : (P - N') * (n + 1) + (n - t') < (P - N) * (n + 1) + (n - t) := by
  have h1 : (P - N') + 1 ≤ P - N := by omega
  have h2 := Nat.mul_le_mul_right (n + 1) h1
  rw [Nat.add_mul, Nat.one_mul] at h2
  omega
theorem meas2 {P n N N' t t' : Nat} (hN : N ≤ N') (ht : t < t') (ht' : t' ≤ n) : (P - N') * (n + 1) + (n - t') < (P - N) * (n + 1) + (n - t) := by
  have h1 : P - N' ≤ P - N := by omega
  have h2 := Nat.mul_le_mul_right (n + 1) h1
  omega
theorem meas3 {P n N t : Nat} : (P - N) * (n + 1) + (n - t) ≤ P * (n + 1) + n := by
  have h2 := Nat.mul_le_mul_right (n + 1) (Nat.sub_le P N)
  omega
section
variable {H : Heap} {ow : Nat → Nat} {p n : Nat} {k : Bk} {f : Cf} {G : List (List Nat)}
/-- What the search may have done to the solver's numbers: d conflicts, r restarts. -/
structure Nm (f f' : Cf) (d r : Nat) : Prop where
  room : f'.room = f.room
  loaded : f'.loaded = f.loaded
  giv : f'.given = f.given ∧ f'.gs = f.gs ∧ f'.gl = f.gl
  rounds : f'.rounds = f.rounds + r
  conf : f'.conf = f.conf + d
  ls : f'.ls.length = f.ls.length + 2 * d
  lrn : f'.lrn.length ≤ f.lrn.length + d
  C : f'.C.length ≤ f.C.length + d
  cor : f'.core = f.core
theorem Nm.refl : Nm f f 0 0 := ⟨rfl, rfl, ⟨rfl, rfl, rfl⟩, rfl, rfl, rfl, Nat.le_refl _, Nat.le_refl _, rfl⟩
theorem Nm.trans {f' f'' : Cf} {d r d' r' : Nat} (h : Nm f f' d r) (h' : Nm f' f'' d' r') : Nm f f'' (d + d') (r + r') :=
  ⟨h'.room.trans h.room, h'.loaded.trans h.loaded, ⟨h'.giv.1.trans h.giv.1, h'.giv.2.1.trans h.giv.2.1, h'.giv.2.2.trans h.giv.2.2⟩, by rw [h'.rounds, h.rounds]; omega, by rw [h'.conf, h.conf]; omega, by rw [h'.ls, h.ls]; omega, by have := h.lrn; have := h'.lrn; omega, by have := h.C; have := h'.C; omega, h'.cor.trans h.cor⟩
theorem Nm.of_key {f' : Cf} (h : f'.key = f.key) : Nm f f' 0 0 := by
  simp only [Cf.key, Prod.mk.injEq] at h
  obtain ⟨e1, e2, e3, e4, e5, e6, e7, e8, e9, e10, e11, e12, e13⟩ := h
  exact ⟨e5, e7, e8, e6, e2, by rw [e4]; omega, by rw [e3]; omega, by rw [e1]; omega, e11⟩
theorem Nm.of_gw {f' : Cf} (h : Gw f f' 0) (hl : f'.ls = f.ls) : Nm f f' 0 0 := by
  have h5 := h.key
  simp only [Cf.key5, Prod.mk.injEq] at h5
  obtain ⟨e1, e2, e3, e4, e5, e6, e7, e8⟩ := h5
  exact ⟨e2, e4, e5, e3, e1, by rw [hl]; omega, h.lrn, h.C, e7⟩
def big (n : Nat) : Nat := 2 ^ n * (n + 1) + n + 1
def msr (n : Nat) (f : Cf) : Nat := (2 - f.rounds) * big n + ((2 ^ n - f.s.N n) * (n + 1) + (n - f.tr.length))
theorem msr_learn {f1 f2 : Cf} (hr : f2.rounds = f1.rounds) (hN : f1.s.N n < f2.s.N n) (ht : f1.tr.length ≤ n) : msr n f2 < msr n f1 := by
  unfold msr
  rw [hr]
  have := meas1 (P := 2 ^ n) (t' := f2.tr.length) hN (Nat.le_of_lt (St.N_lt f2.s)) ht
  omega
theorem msr_step {f1 f2 : Cf} (hr : f2.rounds = f1.rounds) (hN : f1.s.N n ≤ f2.s.N n) (ht : f1.tr.length < f2.tr.length) (ht' : f2.tr.length ≤ n) : msr n f2 < msr n f1 := by
  unfold msr
  rw [hr]
  have := meas2 (P := 2 ^ n) hN ht ht'
  omega
theorem msr_le {f1 f2 : Cf} (hr : f2.rounds = f1.rounds) (hN : f1.s.N n ≤ f2.s.N n) (ht : f1.tr.length ≤ f2.tr.length) : msr n f2 ≤ msr n f1 := by
  unfold msr
  rw [hr]
  have h1 : 2 ^ n - f2.s.N n ≤ 2 ^ n - f1.s.N n := by omega
  have h2 := Nat.mul_le_mul_right (n + 1) h1
  omega
theorem msr_turn {f1 f2 : Cf} (hr : f2.rounds = f1.rounds + 1) (h2 : f2.rounds ≤ 2) : msr n f2 ≤ msr n f1 := by
  unfold msr
  have h3 := meas3 (P := 2 ^ n) (n := n) (N := f2.s.N n) (t := f2.tr.length)
  obtain ⟨z, hz⟩ : ∃ z, 2 - f1.rounds = z + 1 := ⟨1 - f1.rounds, by omega⟩
  have hz2 : 2 - f2.rounds = z := by omega
  rw [hz, hz2, Nat.add_mul, Nat.one_mul]
  unfold big
  omega
/-- A search that meets no conflict. -/
structure QH (n : Nat) (G : List (List Nat)) (xs : List Nat) (m : Nat → Bool) : Prop where
  mdl : Mdl m
  all : AllB m G
  x0 : ∀ x, xs[0]? = some x → m x = true
  full : ∀ (s : St) (C : List Nat) (w : Nat → List Nat) (head : Nat), SI n s C w G head → head = s.tr.length → (xs = [] ∨ ∃ x, xs[0]? = some x ∧ x ∈ s.tr) → s.tr.length = n
/-- The answers of a search. -/
inductive RunA (n : Nat) (G : List (List Nat)) (xs : List Nat) (H : Heap) (ow : Nat → Nat) (f' : Cf) : Value → Prop
  | dead (hd : f'.dead = true) (hu : ∀ m, Mdl m → ¬ AllB m G) : RunA n G xs H ow f' (.tuple #[iv 2, .slice none 0 0])
  | sat (md : List Bool) (m : Nat → Bool) (hd : f'.dead = false) (hm : Mdl m) (hG : AllB m G) (ha : ∀ x ∈ xs, m x = true) (hl : md = (List.range n).map fun j => m (2 * j + 2)) (hv : Vec H 4 1 f'.model (md.map Value.bool)) (ho : ∀ b ∈ own f'.model, ow b = 0) :
      RunA n G xs H ow f' (.tuple #[iv 1, .slice none 0 0])
  | unsat (core : Value) (x : Nat) (ds : List Nat) (hd : f'.dead = false) (hx : x ∈ xs) (hc : ∀ y ∈ x :: ds, isC n y) (hv : Vec H 3 1 core (((x :: ds).map litI).map iv)) (ho : ∀ b ∈ own core, ow b = 0) (hl : ds.length ≤ n) (hu : ∀ m, Mdl m → AllB m G → ¬ ∀ y ∈ x :: ds, m y = true) (hq : ∀ m, QH n G xs m → ∀ y ∈ x :: ds, y ∈ xs) :
      RunA n G xs H ow f' (.tuple #[iv 2, core])
theorem full_mdl {s : St} (hi : Inv n s) (hall : ∀ x, isC n x → x ∈ s.tr ∨ neg x ∈ s.tr) : ∃ m, Mdl m ∧ (∀ x ∈ s.tr, m x = true) ∧ ∀ x, isC n x → m x = decide (x ∈ s.tr) := by
  haveI : ∀ x, Decidable (isC n x) := fun x => by unfold isC; infer_instance
  refine ⟨fun x => if isC n x then decide (x ∈ s.tr) else x % 2 == 0, ⟨fun x => ?_⟩, fun x hx => ?_, fun x hx => if_pos hx⟩
  · by_cases hc : isC n x
    · have hc' := isC_neg hc
      simp only [if_pos hc, if_pos hc']
      rcases hall x hc with h | h
      · have : neg x ∉ s.tr := fun e => hi.ok.clash h e
        simp [h, this]
      · have : x ∉ s.tr := fun e => hi.ok.clash e h
        simp [h, this]
    · have hc' : ¬ isC n (neg x) := fun e => hc (by have := isC_neg e; rwa [neg_neg] at this)
      simp only [if_neg hc, if_neg hc']
      unfold neg
      split
      · have : (x + 1) % 2 = 1 := by omega
        simp [*]
      · have : (x - 1) % 2 = 0 := by omega
        have h2 : x % 2 = 1 := by omega
        simp [*]
  · simp only [if_pos (hi.ok.code x hx), hx, decide_true]
theorem mp2 {ρ : En} {a b : Operand} : Array.map ρ.ev #[a, b] = #[ρ.ev a, ρ.ev b] := by simp
theorem put_ds {n : Nat} {ρ : En} {d : Option Nat} {v : Value} : (ρ.put n d v).ds = ρ.ds := by unfold En.put; split <;> rfl
theorem push_bound {p : Nat} (h : 2 ^ n ≤ 128) (N : Nat) (hN : N < 2 ^ n) : N ≤ 127 := by omega
theorem RunA.back {H1 H2 : Heap} {ow1 : Nat → Nat} {f1 f2 : Cf} {xs : List Nat} {v : Value} (h : RunA n G xs H1 ow1 f1 v) (hk : f2.key = f1.key) (he : Ex H1 ow1 H2 ow1) : RunA n G xs H2 ow1 f2 v := by
  have hd : f2.dead = f1.dead := congrArg (fun z => z.2.2.2.2.2.2.2.2.2.2.2.1) hk
  have hm : f2.model = f1.model := congrArg (fun z => z.2.2.2.2.2.2.2.2.2.1) hk
  cases h with
  | dead h1 h2 => exact .dead (hd.trans h1) h2
  | sat md m h1 h2 h3 h4 h5 h6 h7 => exact .sat md m (hd.trans h1) h2 h3 h4 h5 (by rw [hm]; exact he.vec h6 h7) (by rw [hm]; exact h7)
  | unsat core x ds h1 h2 h3 h4 h5 h6 h7 h8 => exact .unsat core x ds (hd.trans h1) h2 h3 (he.vec h4 h5) h5 h6 h7 h8
structure QT (n : Nat) (xs : List Nat) (m : Nat → Bool) (f f1 : Cf) (d : Nat) (left : Int) : Prop where
  tr : ∀ z ∈ f1.tr, m z = true
  st : ∀ k ∈ f1.st, k < f1.tr.length
  d : d = 0
  ls : f1.ls = f.ls
  left : 0 < left
  x : f1.st ≠ [] → ∀ x, xs[0]? = some x → x ∈ f1.tr
  dec : ∀ q ∈ f1.st, ∀ z, f1.tr[q]? = some z → xs[0]? = some z
theorem qt_keep {s s' : St} {C : List Nat} {w : Nat → List Nat} {m : Nat → Bool} (hi : Inv n s') (hw : WI n s' C w) (hg : GI s' C G) (hm : Mdl m) (hG : AllB m G) (hp : s.tr <+: s'.tr) (hst : s'.st = s.st) (h1 : ∀ z ∈ s.tr, m z = true) (h2 : ∀ k ∈ s.st, k < s.tr.length) : ∀ z ∈ s'.tr, m z = true := by
  have key : ∀ (i z : Nat), s'.tr[i]? = some z → m z = true := by
    intro i
    induction i using Nat.strongRecOn with
    | ind i ih =>
      intro z hz
      cases hr : s'.rea (z / 2) with
      | none =>
        rcases hi.dec i z hz hr with h0 | h0
        · exact (hg.snd m hm hG).2 i z hz h0
        · rw [hst] at h0
          obtain ⟨t, ht⟩ := hp
          rw [← ht, List.getElem?_append_left (h2 i h0)] at hz
          exact h1 z (List.mem_of_getElem? hz)
      | some c =>
        obtain ⟨r, hl, hf⟩ := hi.why i z c hz hr
        obtain ⟨y, hy, hmy⟩ := (hg.snd m hm hG).1 c (hw.rs i z c hz hr)
        rw [hl] at hy
        rcases List.mem_cons.1 hy with rfl | hy
        · exact hmy
        · obtain ⟨j, hj, hjy⟩ := hf y hy
          have := ih j hj _ hjy
          rw [hm.neg, hmy] at this
          cases this
  intro z hz
  obtain ⟨i, hi⟩ := List.getElem?_of_mem hz
  exact key i z hi
/-- The end of a search: back to the beginning. -/
theorem run_fin {H1 : Heap} {ow1 : Nat → Nat} {f1 : Cf} {d r : Nat} {a b : Value} {xs : List Nat} {ρ : En} (hs : SB H1 ow1 p n k f1) (hsi : f1.dead = false → SI n f1.s f1.C f1.w G f1.head ∧ f1.head = f1.tr.length)
    (ex : Ex H ow H1 ow1) (nm : Nm f f1 d r) (hd : d ≤ 384) (hr : f.rounds + r ≤ 2) (h64 : 2 ^ n ≤ 64 → r = 0 ∧ d ≤ 64) (hdd : f.dead = true → f1.dead = true) (hq1 : f.dead = false → ∀ m, QH n G xs m → d = 0 ∧ f1.ls = f.ls) (hq2 : f.dead = true → d = 0 ∧ f1.ls = f.ls)
    (ha : RunA n G xs H1 ow1 f1 (.tuple #[a, b])) (hds : ρ.ds = [⟨.fn (.func 61) #[], #[sp p, iv 0]⟩]) (h6 : ρ.get 6 = a) (h7 : ρ.get 7 = b) :
    Go.Dfr.dfrQ Tryz.prog [.tmp 6, .tmp 7] (fun v H' => ∃ ow' f' d r, SB H' ow' p n k f' ∧ f'.st = [] ∧ (f'.dead = false → SI n f'.s f'.C f'.w G f'.head ∧ f'.head = f'.tr.length) ∧ Ex H ow H' ow' ∧ Nm f f' d r ∧ d ≤ 384 ∧ f.rounds + r ≤ 2 ∧ (2 ^ n ≤ 64 → r = 0 ∧ d ≤ 64) ∧ (f.dead = true → f'.dead = true) ∧ (f.dead = false → ∀ m, QH n G xs m → d = 0 ∧ f'.ls = f.ls) ∧ (f.dead = true → d = 0 ∧ f'.ls = f.ls) ∧ RunA n G xs H' ow' f' v) .ret ρ H1 := by
  refine ⟨61, #[], #[sp p, iv 0], _, hds, Tryz.func61, rfl, rfl, ?_⟩
  have hc := (back0_c hs).dcall
  intro w hw
  refine (hc w hw).mono ?_
  rintro e u' w' ⟨h1, h2, h3, v, hv, f', m', e', k'⟩
  refine ⟨h1, h2, h3, ?_⟩
  simp only [resL, h6, h7, tupV]
  have hde : f'.dead = f1.dead := congrArg (fun z => z.2.2.2.2.2.2.2.2.2.2.2.1) k'.key
  have hls : f'.ls = f1.ls := congrArg (fun z => z.2.2.2.1) k'.key
  refine ⟨ow1, f', d, r, m', k'.st, fun h => ?_, ex.trans e', ?_, hd, hr, h64, fun h => hde.trans (hdd h), fun h m hm => ⟨(hq1 h m hm).1, hls.trans (hq1 h m hm).2⟩, fun h => ⟨(hq2 h).1, hls.trans (hq2 h).2⟩, ha.back k'.key e'⟩
  · obtain ⟨h4, h5⟩ := hsi (hde.symm.trans h)
    exact ⟨k'.si G h4, k'.hd h5⟩
  · have := nm.trans (Nm.of_key k'.key)
    simpa using this
/-- A search under way. -/
structure RI (H : Heap) (ow : Nat → Nat) (p n : Nat) (k : Bk) (f : Cf) (G : List (List Nat)) (xs : List Nat) (H1 : Heap) (ow1 : Nat → Nat) (f1 : Cf) (d r : Nat) (left : Int) : Prop where
  s : SOK H1 ow1 p n k f1 G
  dead : f1.dead = false
  la : LA xs f1.st f1.tr
  ex : Ex H ow H1 ow1
  nm : Nm f f1 d r
  d1 : d ≤ 2 ^ n * r + f1.s.N n
  r1 : f.rounds + r ≤ 2
  lf : (lenR f1.rounds : Int) ≤ left + f1.s.N n
  lu : left ≤ 200
  q : 2 ^ n ≤ 64 → r = 0
  qt : ∀ m, QH n G xs m → QT n xs m f f1 d left
theorem RI.d2 {H1 : Heap} {ow1 : Nat → Nat} {f1 : Cf} {xs : List Nat} {d r : Nat} {left : Int} (h : RI H ow p n k f G xs H1 ow1 f1 d r left) (hn : 2 ^ n ≤ 128 ∨ ∃ m, QH n G xs m) : d ≤ 384 ∧ (2 ^ n ≤ 64 → r = 0 ∧ d ≤ 64) := by
  have h1 := h.d1
  have h2 := St.N_lt (n := n) f1.s
  have h3 := h.r1
  have h4 : r ≤ 2 := by omega
  rcases hn with hn | ⟨m, hm⟩
  case inr =>
    have := (h.qt m hm).d
    exact ⟨by omega, fun h6 => ⟨h.q h6, by omega⟩⟩
  have h5 : 2 ^ n * r ≤ 128 * 2 := Nat.mul_le_mul hn h4
  refine ⟨by omega, fun h6 => ?_⟩
  have h7 := h.q h6
  subst h7
  exact ⟨rfl, by omega⟩
set_option maxHeartbeats 4000000 in
/-- A search to its end. -/
theorem sRun_spec (h : SB H ow p n k f) (hst : f.st = []) (hok : f.dead = false → SI n f.s f.C f.w G f.head) (hno : f.dead = true → ∀ m, Mdl m → ¬ AllB m G)
    {xs : List Nat} {lv : Value} (hv : Vec H 3 1 lv (nv xs)) (hlv : ∀ b ∈ own lv, ow b = 0) (hxs : ∀ x ∈ xs, isC n x) (hxl : xs.length ≤ 1000)
    {g : FuncId} {caps : List Value} (hov : ∀ (H1 : Heap) (ow1 : Nat → Nat) (x : Nat), Ex H ow H1 ow1 → CallF Tryz.prog g (iv x :: caps) H1 (fun v H' => v = .bool false ∧ H' = H1) NoP)
    (hn7 : 2 ^ n ≤ 128 ∨ ∃ m, QH n G xs m) (hr2 : f.rounds ≤ 2) {q : Nat} (hq : f.ls.length = 2 * q) (hls : q ≤ 900000) (hlr : (f.lrn.length : Int) + 400 ≤ f.room) (hroom : f.room ≤ 100000) (hC : f.C.length ≤ 90000) (hconf : f.conf ≤ 1000000) :
    CallF Tryz.prog 39 [hp p, lv, .func (.func g) #[] caps.toArray] H (fun v H' => ∃ ow' f' d r, SB H' ow' p n k f' ∧ f'.st = [] ∧ (f'.dead = false → SI n f'.s f'.C f'.w G f'.head ∧ f'.head = f'.tr.length) ∧ Ex H ow H' ow' ∧ Nm f f' d r ∧ d ≤ 384 ∧ f.rounds + r ≤ 2 ∧ (2 ^ n ≤ 64 → r = 0 ∧ d ≤ 64) ∧ (f.dead = true → f'.dead = true) ∧ (f.dead = false → ∀ m, QH n G xs m → d = 0 ∧ f'.ls = f.ls) ∧ (f.dead = true → d = 0 ∧ f'.ls = f.ls) ∧ RunA n G xs H' ow' f' v) NoP := by
  refine Go.Dfr.callF_dfr (rs := [.tmp 6, .tmp 7]) Tryz.func39 rfl Tryz.ntmps39 Tryz.results39 (by decide) rfl ?_
  refine Go.Dfr.CW.seq2 (cw_sound _ _ _ _ ?_)
  simp (disch := omega) only [go_sem, ↓cw_block, dsB_of]
  refine Go.Dfr.CW.seq2 (Go.Dfr.region_dfr [_, _, _] rfl ?_)
  simp (disch := omega) only [go_sem, ↓cw_block, dsB_of, ↓Go.Dfr.opsWpD_cons, ↓Go.Dfr.opsWpD_nil]
  refine ⟨_, rfl, cw_sound _ _ _ _ ?_⟩
  have c20 : cellH H ⟨p, 20, none⟩ = some (iv f.rounds) := h.m.c 20
  simp (disch := omega) only [go_sem, ↓cw_block, dsB_of, c20]
  refine call_to (sLength_spec hr2) ?_
  rintro v H1 ⟨rfl, e1⟩
  subst H1
  simp (disch := omega) only [go_sem, dsB_of]
  refine cut_at (fun ρ H1 => ∃ ow1 f1 d r, (ρ.ds = [⟨.fn (.func 61) #[], #[sp p, iv 0]⟩]) ∧ SB H1 ow1 p n k f1 ∧ f1.dead = true ∧ (∀ m, Mdl m → ¬ AllB m G) ∧ Ex H ow H1 ow1 ∧ Nm f f1 d r ∧ d ≤ 384 ∧ f.rounds + r ≤ 2 ∧ (2 ^ n ≤ 64 → r = 0 ∧ d ≤ 64) ∧ (f.dead = false → ∀ m, QH n G xs m → d = 0 ∧ f1.ls = f.ls) ∧ (f.dead = true → d = 0 ∧ f1.ls = f.ls)) ?_ ?_
  · simp (disch := omega) only [go_sem, ↓cw_block, dsB_of]
    by_cases hd : f.dead = true
    · refine loop_by (fun j ρ H2 => (ρ.get 0 = hp p ∧ ρ.ds = [⟨.fn (.func 61) #[], #[sp p, iv 0]⟩]) ∧ H2 = H) (k := 0) ?_ ?_
      · exact ⟨by simp (disch := omega) only [go_sem, ↓cw_block, dsB_of, mp2], rfl⟩
      · rintro _ ρ H2 ⟨⟨r0, rd⟩, rfl⟩
        have c21 : cellH H2 ⟨p, 21, none⟩ = some (.bool f.dead) := h.m.c 21
        rw [hd] at c21
        simp (disch := omega) only [go_sem, ↓cw_block, dsB_of, r0, rd, c21]
        exact ⟨ow, f, 0, 0, by simp (disch := omega) only [go_sem, ↓cw_block, dsB_of, rd], h, hd, hno hd, Ex.refl, Nm.refl, by omega, by omega, by omega, (fun e => by rw [hd] at e; cases e), fun _ => ⟨rfl, rfl⟩⟩
    · have hd' : f.dead = false := by simpa using hd
      have hl0 : 0 < (lenR f.rounds : Int) := by unfold lenR; split <;> omega
      have qt0 : ∀ m, QH n G xs m → QT n xs m f f 0 (lenR f.rounds : Int) := fun m hm => ⟨fun z hz => by
        obtain ⟨i, hi⟩ := List.getElem?_of_mem hz
        exact ((hok hd').gi.snd m hm.mdl hm.all).2 i z hi (by show lev f.st i = 0; rw [hst]; rfl), fun k hk => by rw [hst] at hk; simp at hk, rfl, rfl, hl0, fun e => absurd hst e, fun q hq => by rw [hst] at hq; simp at hq⟩
      refine loop_by (fun j ρ H2 => ∃ ow1 f1 d r left, j = msr n f1 ∧ (ρ.get 0 = hp p ∧ ρ.get 1 = lv ∧ ρ.get 2 = .func (.func g) #[] caps.toArray ∧ ρ.get 8 = iv left ∧ ρ.ds = [⟨.fn (.func 61) #[], #[sp p, iv 0]⟩]) ∧ RI H ow p n k f G xs H2 ow1 f1 d r left) (k := msr n f) ?_ ?_
      · exact ⟨ow, f, 0, 0, lenR f.rounds, rfl, by simp (disch := omega) only [go_sem, ↓cw_block, dsB_of, mp2], ⟨h.sok (hok hd'), hd', by rw [hst]; exact LA.zero, Ex.refl, Nm.refl, by omega, by omega, by omega, by unfold lenR; split <;> omega, fun _ => rfl, qt0⟩⟩
      · rintro _ ρ H2 ⟨ow1, f1, d, r, left, rfl, ⟨r0, r1, r2, r8, rd⟩, ri⟩
        have c21 : cellH H2 ⟨p, 21, none⟩ = some (.bool f1.dead) := ri.s.m.c 21
        rw [ri.dead] at c21
        have htn : f1.tr.length ≤ n := ri.s.si.inv.ok.len
        have hn := ri.s.n
        have hst1 : f1.st.length ≤ 1000000 := by have := ri.la.len; omega
        obtain ⟨hd3, hq3⟩ := ri.d2 hn7
        have hC1 : f1.C.length ≤ 100000 := by have := ri.nm.C; omega
        simp (disch := omega) only [go_sem, ↓cw_block, dsB_of, r0, c21]
        refine call_to (sPropagate_spec ri.s.m ri.s.r ri.s.si ri.s.n hC1 hst1) ?_
        rintro v H3 ⟨ow3, f3, m3, q3, e3, v3, ha⟩
        have nm3 : Nm f f3 d r := ri.nm.trans (Nm.of_key v3.key)
        have la3 : LA xs f3.st f3.tr := by rw [v3.st]; exact ri.la.pre v3.pre
        have ex3 := ri.ex.trans e3
        have dead3 : f3.dead = false := (congrArg (fun z => z.2.2.2.2.2.2.2.2.2.2.2.1) v3.key).trans ri.dead
        have sn3 : ∀ v, v ≤ n → bt f3.seen v = false := by
          have e : f3.seen = f1.seen := congrArg (fun z => z.2.2.2.2.2.2.2.2.1) v3.key
          rw [e]; exact ri.s.sn
        have stp3 : 1024 ≤ f3.step ∧ f3.step ≤ 1099511627776 := by
          have e : f3.step = f1.step := congrArg (fun z => z.2.2.2.2.2.2.2.2.2.2.2.2) v3.key
          rw [e]; exact ri.s.stp
        have hpl3 : f3.pl = f1.pl := congrArg (fun z => z.2.2.2.1) v3.key3
        have hin3 : HIn n f3 := ri.s.hin.pre v3.pre (fun v => by rw [hpl3])
        have rounds3 : f3.rounds = f1.rounds := congrArg (fun z => z.2.2.2.2.2.1) v3.key
        have num3 := v3.num
        have lf3 : (lenR f3.rounds : Int) ≤ left + f3.s.N n := by rw [rounds3]; have := ri.lf; omega
        have d3 : d ≤ 2 ^ n * r + f3.s.N n := by have := ri.d1; omega
        have ls3 : f3.ls = f1.ls := congrArg (fun z => z.2.2.2.1) v3.key
        have qt3 : Inv n f3.s → WI n f3.s f3.C f3.w → GI f3.s f3.C G → ∀ m, QH n G xs m → QT n xs m f f3 d left := fun hi hw hg m hm => by
          have q1 := ri.qt m hm
          exact ⟨qt_keep (s := f1.s) hi hw hg hm.mdl hm.all v3.pre v3.st q1.tr q1.st, fun k hk => by rw [v3.st] at hk; have := q1.st k hk; have := v3.pre.length_le; omega, q1.d, ls3.trans q1.ls, q1.left, fun e x hx => v3.pre.subset (q1.x (by rw [v3.st] at e; exact e) x hx), fun q hq z hz => by
            rw [v3.st] at hq
            obtain ⟨t, ht⟩ := v3.pre
            rw [← ht, List.getElem?_append_left (q1.st q hq)] at hz
            exact q1.dec q hq z hz⟩
        rcases ha with ⟨rfl, s3, hh3⟩ | ⟨c, x, K, D, rfl, V3, hall⟩
        · have sok3 : SOK H3 ow3 p n k f3 G := ⟨m3, q3, s3, hin3, sn3, stp3, hn⟩
          have hpn : pn none = .pointer none := rfl
          simp (disch := omega) only [go_sem, ↓cw_block, dsB_of, r0, r1, r2, r8, rd, hpn]
          refine cond_at (fun ρ H4 => ∃ ow4 f4 r4 left4, (ρ.get 0 = hp p ∧ ρ.get 1 = lv ∧ ρ.get 2 = .func (.func g) #[] caps.toArray ∧ ρ.get 8 = iv left4 ∧ ρ.ds = [⟨.fn (.func 61) #[], #[sp p, iv 0]⟩]) ∧ RI H ow p n k f G xs H4 ow4 f4 d r4 left4 ∧ f4.head = f4.tr.length ∧ msr n f4 ≤ msr n f1) ?_ ?_
          · by_cases hle : left ≤ 0
            · simp (disch := omega) only [go_sem, ↓cw_block, dsB_of, r0, r8, rd]
              refine call_to (back0_c sok3.sb).callF ?_
              rintro v H4 ⟨rfl, f4, s4, e4, b4⟩
              have hN3 := St.N_lt (n := n) f3.s
              have hn128 : 2 ^ n ≤ 128 := hn7.resolve_right fun ⟨m, hm⟩ => by
                have := (qt3 s3.inv s3.wi s3.gi m hm).left
                omega
              have hr1 : f3.rounds ≤ 1 ∧ 100 ≤ f3.s.N n := by
                have h3 := nm3.rounds
                have := ri.r1
                unfold lenR at lf3
                split at lf3 <;> omega
              have k4 : f4.rounds = f3.rounds := congrArg (fun z => z.2.2.2.2.2.1) b4.key
              have d4 : f4.dead = f3.dead := congrArg (fun z => z.2.2.2.2.2.2.2.2.2.2.2.1) b4.key
              have c20 : cellH H4 ⟨p, 20, none⟩ = some (iv f3.rounds) := by rw [← k4]; exact s4.m.c 20
              obtain ⟨H5, w5, (m5 : RM _ _ _ _ _ _), e5⟩ := s4.m.putRounds (f3.rounds + 1)
              have hcc : (f3.rounds : Int) + 1 = ((f3.rounds + 1 : Nat) : Int) := by omega
              have c20' : cellH H5 ⟨p, 20, none⟩ = some (iv ((f3.rounds + 1 : Nat) : Int)) := m5.c 20
              simp (disch := omega) only [go_sem, ↓cw_block, dsB_of, r0, r8, rd, c20, hcc, w5, c20']
              refine call_to (sLength_spec (r := f3.rounds + 1) (by omega)) ?_
              rintro v H6 ⟨rfl, e6⟩
              subst H6
              obtain ⟨sa, sc, es⟩ := m5.learned.form
              rw [List.length_map] at es
              have nm4 : Nm f f4 d r := nm3.trans (Nm.of_key b4.key)
              have c18 : cellH H5 ⟨p, 18, none⟩ = some (.slice sa f4.lrn.length sc) := by
                have : cellH H5 ⟨p, 18, none⟩ = some f4.learned := m5.c 18
                rw [this]; exact congrArg some es
              have c19 : cellH H5 ⟨p, 19, none⟩ = some (iv f4.room) := m5.c 19
              have hrm : f4.room = f.room := nm4.room
              have hll : (f4.lrn.length : Int) ≤ f4.room := by have := nm4.lrn; rw [hrm]; omega
              simp (disch := omega) only [go_sem, ↓cw_block, dsB_of, r0, r8, rd]
              refine draw0 (lk [(0, true), (1, true), (2, true), (3, true), (4, true), (5, true), (6, true), (7, true), (8, true), (9, true), (10, true), (11, true)] .fin) T.mixed ?_
              simp (disch := omega) only [go_sem, ↓cw_block, dsB_of, r0, r8, rd, c18, c19]
              have hr3 := nm3.rounds
              exact fin ⟨ow3, f4.uRounds (f3.rounds + 1), r + 1, lenR (f3.rounds + 1), by simp (disch := omega) only [go_sem, ↓cw_block, dsB_of, r0, r1, r2, r8, rd],
                ⟨(SB.sok (f := f4.uRounds (f3.rounds + 1)) ⟨m5, ⟨s4.r.vals, s4.r.lv⟩, s4.inv, s4.wi, s4.le, s4.hin, s4.sn, s4.stp, s4.n⟩ (b4.si G s3)), d4.trans dead3, by show LA xs f4.st f4.tr; rw [b4.st]; exact LA.zero, (ex3.trans e4).trans e5,
                  ⟨nm4.room, nm4.loaded, nm4.giv, by show f3.rounds + 1 = _; omega, nm4.conf, nm4.ls, nm4.lrn, nm4.C, nm4.cor⟩, by rw [Nat.mul_add, Nat.mul_one]; omega, by omega, by show (lenR (f3.rounds + 1) : Int) ≤ _; omega, by unfold lenR; split <;> omega, fun h => by omega, fun m hm => by
                    have := (qt3 s3.inv s3.wi s3.gi m hm).left
                    omega⟩,
                b4.hd hh3, msr_turn (by show f3.rounds + 1 = _; rw [rounds3]) (by show f3.rounds + 1 ≤ 2; omega)⟩
            · simp (disch := omega) only [go_sem, ↓cw_block, dsB_of, r0, r8, rd]
              exact ⟨ow3, f3, r, left, by simp (disch := omega) only [go_sem, ↓cw_block, dsB_of, r0, r1, r2, r8, rd], ⟨sok3, dead3, la3, ex3, nm3, d3, ri.r1, lf3, ri.lu, ri.q, qt3 s3.inv s3.wi s3.gi⟩, hh3, msr_le rounds3 num3 v3.pre.length_le⟩
          · rintro ρ H4 ⟨ow4, f4, r4, left4, ⟨r0, r1, r2, r8, rd⟩, ri4, hh4, le4⟩
            simp (disch := omega) only [go_sem, ↓cw_block, dsB_of, r0, r1]
            refine call_to (sDecide_spec ri4.s hh4 (ri4.ex.vec hv hlv) (fun b hb => ?_) hxs hxl ri4.la) ?_
            · have := ri4.ex.ow b (hv.lt b hb)
              rw [this]; exact hlv b hb
            have nm4 := ri4.nm
            have tn4 : f4.tr.length ≤ n := ri4.s.si.inv.ok.len
            obtain ⟨hd4, hq4⟩ := ri4.d2 hn7
            rintro v H5 (⟨rfl, ow5, f5, s5, e5, g5, n5, l5, la5, y, t5, y1, y2, hh5, ys5, ya⟩ | ⟨rfl, ow5, f5, w, m5, s5, e5, g5, l5, t5, h5, la5, x5, a5, v5, o5⟩ | ⟨core, rfl, ow5, f5, x, ds, s5, e5, g5, l5, t5, h5, la5, hx5, nx5, v5, o5, dl5, -, d5, -, ys5, u5⟩)
            · have k5 := g5.key
              simp only [Cf.key5, Prod.mk.injEq] at k5
              obtain ⟨k1, k2, k3, k4, k5, k6, k7, k8⟩ := k5
              have tl5 : f5.tr.length = f4.tr.length + 1 := by rw [t5]; simp
              simp (disch := omega) only [go_sem, ↓cw_block, dsB_of, rd]
              refine fin ⟨msr n f5, Nat.lt_of_lt_of_le (msr_step k3 n5 (by omega) s5.si.inv.ok.len) le4, ow5, f5, d, r4, left4, rfl, by simp (disch := omega) only [go_sem, ↓cw_block, dsB_of, r0, r1, r2, r8, rd], ⟨s5, k8.trans ri4.dead, la5, ri4.ex.trans e5, nm4.trans (Nm.of_gw g5 l5), by have := ri4.d1; omega, ri4.r1, ?_, ri4.lu, ri4.q, fun m hm => ?_⟩⟩
              · rw [k3]; have := ri4.lf; omega
              · have q4 := ri4.qt m hm
                have nf : ¬ f4.tr.length = n := fun e => by have : f5.tr.length ≤ n := s5.si.inv.ok.len; omega
                have hne : xs ≠ [] := fun e => nf (hm.full f4.s f4.C f4.w f4.head ri4.s.si hh4 (.inl e))
                obtain ⟨x, hx⟩ : ∃ x, xs[0]? = some x := by
                  cases xs with
                  | nil => exact absurd rfl hne
                  | cons x t => exact ⟨x, rfl⟩
                have hxn : x ∉ f4.tr := fun e => nf (hm.full f4.s f4.C f4.w f4.head ri4.s.si hh4 (.inr ⟨x, hx, e⟩))
                have hst4 : f4.st = [] := by
                  by_cases e : f4.st = []
                  · exact e
                  · exact absurd (q4.x e x hx) hxn
                have hyx : y = x := by
                  by_cases e : f5.st = []
                  · have := ya (by rw [e]; simp)
                    rw [e] at this
                    have h2 : xs[0]? = some y := this
                    rw [hx] at h2; exact (Option.some.inj h2).symm
                  · obtain ⟨j, hj, -⟩ := la5.asu 0 x (List.length_pos_iff.2 e) hx
                    have := List.mem_of_getElem? hj
                    rw [t5] at this
                    rcases List.mem_append.1 this with h | h
                    · exact absurd h hxn
                    · exact (List.mem_singleton.1 h).symm
                refine ⟨fun z hz => ?_, fun k hk => ?_, q4.d, l5.trans q4.ls, q4.left, fun _ x' hx' => ?_, fun q hq z hz => ?_⟩
                · rw [t5] at hz
                  rcases List.mem_append.1 hz with h | h
                  · exact q4.tr z h
                  · have := List.mem_singleton.1 h
                    subst this; subst hyx; exact hm.x0 _ hx
                · have := s5.si.st k hk
                  omega
                · rw [hx] at hx'
                  have := Option.some.inj hx'
                  subst this; subst hyx; rw [t5]; simp
                · rcases ys5 q hq with h | h
                  · rw [hst4] at h; simp at h
                  · rw [t5, h, List.getElem?_append_right (Nat.le_refl _), Nat.sub_self] at hz
                    have := Option.some.inj hz
                    subst this; subst hyx; exact hx
            · have k5 := g5.key
              simp only [Cf.key5, Prod.mk.injEq] at k5
              obtain ⟨k1, k2, k3, k4, k5, k6, k7, k8⟩ := k5
              have nm5 : Nm f f5 d r4 := nm4.trans (Nm.of_gw g5 l5)
              simp (disch := omega) only [go_sem, ↓cw_block, dsB_of, rd]
              refine run_fin (f1 := f5.uModel w) (a := iv 1) (b := .slice none 0 0) s5.sb (fun _ => ⟨s5.si, h5⟩) (ri4.ex.trans e5) ⟨nm5.room, nm5.loaded, nm5.giv, nm5.rounds, nm5.conf, nm5.ls, nm5.lrn, nm5.C, nm5.cor⟩ hd4 ri4.r1 hq4 (fun e => absurd e hd) (fun _ m hm => ⟨(ri4.qt m hm).d, l5.trans (ri4.qt m hm).ls⟩) (fun e => absurd e hd) ?_ (by simp (disch := omega) only [go_sem, ↓cw_block, dsB_of, rd]) (by simp (disch := omega) only [go_sem, ↓cw_block, dsB_of]) (by simp (disch := omega) only [go_sem, ↓cw_block, dsB_of])
              obtain ⟨m, hm, hm1, hm2⟩ := full_mdl s5.si.inv (fun x hx => by show x ∈ f5.tr ∨ neg x ∈ f5.tr; rw [t5]; exact a5 x hx)
              refine .sat (mdl n f4.s n) m (k8.trans ri4.dead) hm (sat_all s5.si.inv s5.si.wi (by have := s5.si.pi; have e : (f5.uModel w).head = (f5.uModel w).s.tr.length := h5; rw [e] at this; exact this) s5.si.gi (fun x hx => by show x ∈ f5.tr ∨ neg x ∈ f5.tr; rw [t5]; exact a5 x hx) hm hm1) ?_ ?_ v5 (fun b hb => (o5 b hb).2)
              · intro x hx
                obtain ⟨i, hi⟩ := List.getElem?_of_mem hx
                obtain ⟨j, hj, -⟩ := la5.asu i x (by have := (List.getElem?_eq_some_iff.1 hi).1; omega) hi
                exact hm1 x (List.mem_of_getElem? hj)
              · apply List.map_congr_left
                intro j hj
                have hj' := List.mem_range.1 hj
                rw [hm2 _ (show isC n (2 * j + 2) by unfold isC; omega)]
                have e : f5.tr = f4.tr := t5
                simp only [hj', decide_true, Bool.true_and]
                refine decide_eq_decide.2 ?_
                rw [val_pos]
                show (_ ∈ f4.tr) ↔ (_ ∈ f5.tr)
                rw [e]
            · have k5 := g5.key
              simp only [Cf.key5, Prod.mk.injEq] at k5
              obtain ⟨k1, k2, k3, k4, k5, k6, k7, k8⟩ := k5
              have nm5 : Nm f f5 d r4 := nm4.trans (Nm.of_gw g5 l5)
              simp (disch := omega) only [go_sem, ↓cw_block, dsB_of, rd]
              refine run_fin (f1 := f5) (a := iv 2) (b := core) s5.sb (fun _ => ⟨s5.si, h5⟩) (ri4.ex.trans e5) nm5 hd4 ri4.r1 hq4 (fun e => absurd e hd) (fun _ m hm => ⟨(ri4.qt m hm).d, l5.trans (ri4.qt m hm).ls⟩) (fun e => absurd e hd) ?_ (by simp (disch := omega) only [go_sem, ↓cw_block, dsB_of, rd]) (by simp (disch := omega) only [go_sem, ↓cw_block, dsB_of]) (by simp (disch := omega) only [go_sem, ↓cw_block, dsB_of])
              refine .unsat core x ds (k8.trans ri4.dead) hx5 ?_ v5 (fun b hb => (o5 b hb).2) dl5 (fun m hm hG => u5 m (s5.si.gi.holds s5.si.wi hm hG)) (fun m hm y hy => ?_)
              · intro y hy
                rcases List.mem_cons.1 hy with rfl | hy
                · exact hxs y hx5
                obtain ⟨-, j, hj, -⟩ := d5 y hy
                exact s5.si.inv.ok.code y (List.mem_of_getElem? hj)
              · have q4 := ri4.qt m hm
                rcases List.mem_cons.1 hy with rfl | hy
                · exact hx5
                · obtain ⟨hr5, j, hj, hlv⟩ := d5 y hy
                  have hjs : j ∈ f5.st := by
                    rcases s5.si.inv.dec j y hj hr5 with h | h
                    · have h' : lev f5.st j = 0 := h
                      omega
                    · exact h
                  have hjt : j < f5.tr.length := (List.getElem?_eq_some_iff.1 hj).1
                  rw [t5] at hj hjt
                  rcases ys5 j hjs with h | h
                  · exact List.mem_of_getElem? (q4.dec j h y hj)
                  · omega
        · obtain ⟨sa, sc, es⟩ := m3.starts.form
          rw [nv_len] at es
          have c15 : cellH H3 ⟨p, 15, none⟩ = some (.slice sa f3.st.length sc) := by rw [← es]; exact m3.c 15
          have noq : ∀ m, ¬ QH n G xs m := fun m hm => by
            have q3 := qt3 V3.inv V3.wi V3.gi m hm
            obtain ⟨y, hy, hmy⟩ := (V3.gi.snd m hm.mdl hm.all).1 c V3.mem.1
            have := q3.tr _ (hall y hy)
            rw [hm.mdl.neg, hmy] at this
            cases this
          by_cases hs0 : f3.st = []
          · obtain ⟨H4, w4, (m4 : RM _ _ _ _ _ _), e4⟩ := m3.putDead true
            have hz : f3.st.length = 0 := by rw [hs0]; rfl
            rw [hz] at c15
            simp (disch := omega) only [go_sem, ↓cw_block, dsB_of, r0, r1, r2, r8, rd, c15, w4]
            exact ⟨ow3, f3.uDead true, d, r, by simp (disch := omega) only [go_sem, ↓cw_block, dsB_of, rd], ⟨m4, ⟨q3.vals, q3.lv⟩, V3.inv, V3.wi, V3.le, hin3, sn3, stp3, hn⟩, rfl, fun m hm => unsat_all V3.gi V3.mem.1 hall hs0 hm, ex3.trans e4, ⟨nm3.room, nm3.loaded, nm3.giv, nm3.rounds, nm3.conf, nm3.ls, nm3.lrn, nm3.C, nm3.cor⟩, hd3, ri.r1, hq3, (fun _ m hm => absurd hm (noq m)), fun e => absurd e hd⟩
          · have hz : 1 ≤ f3.st.length := List.length_pos_iff.2 hs0
            have c4 : cellH H3 ⟨p, 4, none⟩ = some (iv f3.conf) := m3.c 4
            have hcf := nm3.conf
            have hb4 : (f3.conf : Int) ≤ 2000000 := by omega
            simp (disch := omega) only [go_sem, ↓cw_block, dsB_of, r0, r1, r2, r8, rd, c15, c4]
            refine call_to (hov H3 ow3 f3.conf ex3) ?_
            rintro v H4 ⟨rfl, e4⟩
            subst H4
            obtain ⟨H5, w5, (m5 : RM _ _ _ _ _ _), e5⟩ := m3.putConf (f3.conf + 1)
            have hcc : (f3.conf : Int) + 1 = ((f3.conf + 1 : Nat) : Int) := by omega
            have hn128 : 2 ^ n ≤ 128 := hn7.resolve_right fun ⟨m, hm⟩ => noq m hm
            have lf := ri.lf
            have hN := St.N_lt (n := n) f1.s
            have hlr1 : 100 ≤ lenR f1.rounds := by unfold lenR; split <;> omega
            have hlu := ri.lu
            have hl1 : -100 ≤ left := by omega
            simp (disch := omega) only [go_sem, ↓cw_block, dsB_of, r0, r8, rd, c4, hcc, w5]
            have hls3 := nm3.ls
            have hlrn3 := nm3.lrn
            have hC3 := nm3.C
            have htn3 : f3.tr.length ≤ n := V3.inv.ok.len
            have hst3 : f3.st.length ≤ 1000000 := by have := la3.len; omega
            refine call_to (sLearn_spec (f := f3.uConf (f3.conf + 1)) (G := G) m5 ⟨q3.vals, q3.lv⟩ V3 hall hn hz hst3 sn3 stp3 hin3 (q := q + d) (show f3.ls.length = _ by omega) (by omega) (show f3.lrn.length ≤ _ by omega) (show f3.C.length ≤ _ by omega)) ?_
            rintro v H6 ⟨rfl, ow6, f6, s6, e6, n6, g6, l6, L, hL, t6, p6⟩
            have n6' : f3.s.N n < f6.s.N n := n6
            have k6 := g6.key
            simp only [Cf.key5, Prod.mk.injEq] at k6
            obtain ⟨k1, k2, k3, k4, ⟨k5, k5', k5''⟩, k6, k7, k8⟩ := k6
            have nm6 : Nm f f6 (d + 1) r := ⟨k2.trans nm3.room, k4.trans nm3.loaded, ⟨k5.trans nm3.giv.1, k5'.trans nm3.giv.2.1, k5''.trans nm3.giv.2.2⟩, k3.trans nm3.rounds, by rw [k1]; show f3.conf + 1 = _; omega, by omega,
              by have := g6.lrn; have h' : (f3.uConf (f3.conf + 1)).lrn.length = f3.lrn.length := rfl; omega, by have := g6.C; have h' : (f3.uConf (f3.conf + 1)).C.length = f3.C.length := rfl; omega, k7.trans nm3.cor⟩
            have la6 : LA xs f6.st f6.tr := by
              rw [t6]
              exact (LA.cut V3.inv la3 (q := L) hL).pre p6
            simp (disch := omega) only [go_sem, ↓cw_block, dsB_of]
            refine fin ⟨msr n f6, msr_learn (k3.trans rounds3) (by omega) htn, ow6, f6, d + 1, r, left - 1, rfl, by simp (disch := omega) only [go_sem, ↓cw_block, dsB_of, r0, r1, r2, r8, rd], ⟨s6, k8.trans dead3, la6, (ex3.trans e5).trans e6, nm6, by omega, ri.r1, ?_, by omega, ri.q, fun m hm => absurd hm (noq m)⟩⟩
            rw [k3]
            show (lenR f3.rounds : Int) ≤ _
            omega
  · rintro ρ H1 ⟨ow1, f1, d, r, rd, s1, d1, u1, e1, nm1, q1, q2, q3, q4, q5⟩
    simp (disch := omega) only [go_sem, ↓cw_block, dsB_of, rd]
    exact run_fin s1 (fun e => by rw [d1] at e; cases e) e1 nm1 q1 q2 q3 (fun _ => d1) q4 q5 (.dead d1 u1) (by simp (disch := omega) only [go_sem, ↓cw_block, dsB_of, rd]) (by simp (disch := omega) only [go_sem, ↓cw_block, dsB_of]) (by simp (disch := omega) only [go_sem, ↓cw_block, dsB_of])

end
end Go.Proofs.YtofooamimiijlaaGreat

namespace Go.Sat
set_option linter.unusedVariables false
theorem GI.pushG {n : Nat} {s : St} {C : List Nat} {G : List (List Nat)} (hv : Inv n s) (h : GI s C G) {g : List Nat} {x : Nat} (hg : x ∈ g) (h0 : s.st = []) (hx : ∀ m, Mdl m → AllB m (g :: G) → m x = true) : GI (s.push x none) C (g :: G) := by
  have ht : ∀ m, AllB m (g :: G) → AllB m G := fun m hm y hy => hm y (by simp [hy])
  refine ⟨fun m hm hG => ⟨(h.snd m hm (ht m hG)).1, fun i y hi hl => ?_⟩, fun g' hg' => ?_⟩
  · have hi' : (s.tr ++ [x])[i]? = some y := hi
    have hl' : lev s.st i = 0 := hl
    rcases push_at hi' with ⟨h1, _⟩ | ⟨rfl, rfl⟩
    · exact (h.snd m hm (ht m hG)).2 i y h1 hl'
    · exact hx m hm hG
  · rcases List.mem_cons.1 hg' with rfl | hg'
    · exact .inr (.inl ⟨x, hg, s.tr.length, by show (s.tr ++ [x])[s.tr.length]? = _; simp, by show lev s.st _ = 0; rw [h0]; rfl⟩)
    · rcases h.cmp g' hg' with h1 | ⟨y, hy, i, hi, hl⟩ | h1
      · exact .inl h1
      · exact .inr (.inl ⟨y, hy, i, push_old hi, hl⟩)
      · exact .inr (.inr h1)
theorem GI.attachG {s : St} {C : List Nat} {G : List (List Nat)} (h : GI s C G) {c : Nat} {l g : List Nat} (hc : c ∉ C) (hs : ∀ y ∈ l, y ∈ g) (hl : ∀ m, Mdl m → AllB m (g :: G) → ∃ y ∈ l, m y = true) : GI (s.lit c l) (c :: C) (g :: G) := by
  have ht : ∀ m, AllB m (g :: G) → AllB m G := fun m hm y hy => hm y (by simp [hy])
  refine ⟨fun m hm hG => ⟨fun q hq => ?_, (h.snd m hm (ht m hG)).2⟩, fun g' hg' => ?_⟩
  · by_cases e : q = c
    · subst e; simp only [St.lit, upd_same]; exact hl m hm hG
    · simp only [St.lit, upd_ne e]
      exact (h.snd m hm (ht m hG)).1 q (by simpa [e] using hq)
  · rcases List.mem_cons.1 hg' with rfl | hg'
    · exact .inr (.inr ⟨c, by simp, by simp only [St.lit, upd_same]; exact hs⟩)
    · rcases h.cmp g' hg' with h1 | h1 | ⟨q, hq, h1⟩
      · exact .inl h1
      · exact .inr (.inl h1)
      · have e : q ≠ c := fun e => hc (e ▸ hq)
        exact .inr (.inr ⟨q, by simp [hq], fun y hy => by simp only [St.lit, upd_ne e] at hy; exact h1 y hy⟩)
section
variable {n : Nat} {s : St} {C : List Nat} {w : Nat → List Nat} {G : List (List Nat)} {head : Nat} {g : List Nat}
theorem SI.given (h : SI n s C w G head) (hg : (∃ y ∈ g, neg y ∈ g) ∨ (∃ y ∈ g, ∃ i : Nat, s.tr[i]? = some y ∧ lev s.st i = 0) ∨ ∃ c ∈ C, ∀ y ∈ s.lits c, y ∈ g) : SI n s C w (g :: G) head :=
  ⟨h.inv, h.wi, h.pi, h.gi.given hg, h.le, h.st⟩
theorem SI.gunit (h : SI n s C w G head) (h0 : s.st = []) {x : Nat} (hx : isC n x) (h1 : x ∉ s.tr) (h2 : neg x ∉ s.tr) (hg : x ∈ g) (hso : ∀ m, Mdl m → AllB m (g :: G) → m x = true) : SI n (s.push x none) C w (g :: G) head :=
  ⟨h.inv.push hx h1 h2 (fun c hc => by simp at hc) (fun _ => .inl h0), h.wi.push (fun c hc => by simp at hc), h.pi.push h.le, h.gi.pushG h.inv hg h0 hso, by have := h.le; simp only [St.push, List.length_append, List.length_singleton]; omega, h.st⟩
theorem SI.gattach (h : SI n s C w G head) {c a b : Nat} {r : List Nat} (hc : c ∉ C) (hl : (∀ y ∈ a :: b :: r, isC n y) ∧ ((a :: b :: r).map (· / 2)).Nodup) (ha : neg a ∉ s.tr) (hb : neg b ∉ s.tr) (hs : ∀ y ∈ a :: b :: r, y ∈ g) (hso : ∀ m, Mdl m → AllB m (g :: G) → ∃ y ∈ a :: b :: r, m y = true) :
    SI n (s.lit c (a :: b :: r)) (c :: C) (att w c a b) (g :: G) head :=
  ⟨h.inv.lits fun i x q hi hq => upd_ne fun e => hc (e ▸ h.wi.rs i x q hi hq), h.wi.attach hc hl, h.pi.attach hc (wc_free ha hb), h.gi.attachG hc hs hso, h.le, h.st⟩
/-- What is left of a clause on level 0. -/
theorem left_so (h : SI n s C w G head) (h0 : s.st = []) {m : Nat → Bool} (hm : Mdl m) (hG : AllB m (g :: G)) : ∃ y ∈ g, m y = true ∧ neg y ∉ s.tr := by
  obtain ⟨y, hy, hmy⟩ := hG g (by simp)
  refine ⟨y, hy, hmy, fun e => ?_⟩
  obtain ⟨i, hi⟩ := List.getElem?_of_mem e
  have := (h.gi.snd m hm (fun q hq => hG q (by simp [hq]))).2 i _ hi (by rw [h0]; rfl)
  rw [hm.neg, hmy] at this
  cases this
end
end Go.Sat
namespace Go.Proofs.YtofooamimiijlaaGreat
open Go.HL HM Go.Sat
set_option maxRecDepth 10000
set_option linter.unusedSimpArgs false
set_option linter.unusedVariables false

theorem codeN_var {x : Int} : codeN x / 2 = x.natAbs := by unfold codeN; split <;> omega
theorem codeN_neg {x : Int} (h : x ≠ 0) : neg (codeN x) = codeN (-x) := by
  unfold codeN neg
  split <;> split <;> split <;> omega
theorem codeN_isC {n : Nat} {x : Int} (h : x ≠ 0) (hx : x.natAbs ≤ n) : isC n (codeN x) := by unfold codeN isC; split <;> omega
/-- A clause in its normal form: strictly ordered, its literals in range. -/
structure CN (n : Nat) (z : List Int) : Prop where
  lit : ∀ x ∈ z, x ≠ 0 ∧ x.natAbs ≤ n
  str : z.Pairwise ltN
theorem ltN_codes {n : Nat} : ∀ {z : List Int}, (∀ x ∈ z, x ≠ 0 ∧ x.natAbs ≤ n) → z.Pairwise ltN → (¬ ∃ x ∈ z, -x ∈ z) → ((z.map codeN).map (· / 2)).Nodup
  | [], _, _, _ => by simp
  | x :: z, h, hs, hi => by
    rw [List.map_cons, List.map_cons, List.nodup_cons]
    have hs' := List.pairwise_cons.1 hs
    refine ⟨fun hm => ?_, ltN_codes (fun y hy => h y (by simp [hy])) hs'.2 fun ⟨y, h1, h2⟩ => hi ⟨y, by simp [h1], by simp [h2]⟩⟩
    simp only [List.mem_map] at hm
    obtain ⟨_, ⟨y, hy, rfl⟩, e⟩ := hm
    rw [codeN_var, codeN_var] at e
    have := hs'.1 y hy
    unfold ltN at this
    have hy2 : y = -x := by omega
    exact hi ⟨x, by simp, by rw [← hy2]; simp [hy]⟩
theorem ltN_len {n : Nat} {z : List Int} (h : CN n z) : z.length ≤ 2 * n := by
  have h1 : (z.map codeN).Nodup := by
    have := strict_nodup h.str
    refine List.Pairwise.map codeN (fun a b hab => ?_) (List.Pairwise.and_mem.1 this)
    obtain ⟨ha, hb, hne⟩ := hab
    have ha' := h.lit a ha
    have hb' := h.lit b hb
    intro e
    unfold codeN at e
    split at e <;> split at e <;> omega
  have key : ∀ (l : List Nat) (m : Nat), l.Nodup → (∀ x ∈ l, 2 ≤ x ∧ x < m + 2) → l.length ≤ m := by
    intro l m
    induction m generalizing l with
    | zero => intro _ hx; cases l with | nil => simp | cons a l => have := hx a (by simp); omega
    | succ m ih =>
      intro hd hx
      have h2 := ih (l.erase (m + 2)) (hd.erase _) (fun x hx' => by
        have h3 := hx x (List.mem_of_mem_erase hx')
        have h4 : x ≠ m + 2 := fun e => by subst e; exact (List.Nodup.not_mem_erase hd) hx'
        omega)
      by_cases hm : m + 2 ∈ l
      · rw [List.length_erase_of_mem hm] at h2; omega
      · rw [List.erase_of_not_mem hm] at h2; omega
  have := key _ (2 * n) h1 (fun x hx => by
    obtain ⟨y, hy, rfl⟩ := List.mem_map.1 hx
    have := h.lit y hy
    have := codeN_isC this.1 this.2
    unfold isC at this; omega)
  simpa using this
section
variable {H : Heap} {ow : Nat → Nat} {p n : Nat} {k : Bk} {f : Cf} {G : List (List Nat)}
/-- The solver at the beginning of things: nothing is assumed. -/
structure SD (H : Heap) (ow : Nat → Nat) (p n : Nat) (k : Bk) (f : Cf) (G : List (List Nat)) : Prop where
  sb : SB H ow p n k f
  st : f.st = []
  ok : f.dead = false → SI n f.s f.C f.w G f.head
  no : f.dead = true → ∀ m, Mdl m → ¬ AllB m G
def Cf.key6 (f : Cf) := (f.conf, f.lrn, f.ls, f.room, f.rounds, f.loaded, (f.given, f.gs, f.gl), f.model, f.core, f.st)
/-- What is left of a clause. -/
def lft (s : St) (cs : List Nat) : List Nat := cs.filter fun y => decide (s.val y = 0)
theorem lft_mem {s : St} {cs : List Nat} {y : Nat} : y ∈ lft s cs ↔ y ∈ cs ∧ y ∉ s.tr ∧ neg y ∉ s.tr := by
  unfold lft
  rw [List.mem_filter, decide_eq_true_eq, val_zero]
theorem lft_nodup {s : St} {cs : List Nat} (h : (cs.map (· / 2)).Nodup) : ((lft s cs).map (· / 2)).Nodup := h.sublist (List.filter_sublist.map _)
structure EnA (f f' : Cf) : Prop where
  key : f'.key6 = f.key6
  C : f'.C.length ≤ f.C.length + 1
  dead : f.dead = true → f'.dead = true
set_option maxHeartbeats 4000000 in
theorem sEnter_spec (h : SD H ow p n k f G) {z : List Int} (hz : CN n z) {lv : Value} (hv : Vec H 3 1 lv (z.map iv)) (hC : f.C.length ≤ 90000) :
    CallF Tryz.prog 59 [hp p, lv] H (fun v H' => v = .tuple #[] ∧ ∃ ow' f', SD H' ow' p n k f' (z.map codeN :: G) ∧ Ex H ow H' ow' ∧ EnA f f') NoP := by
  have hzl := ltN_len hz
  have hn := h.sb.n
  obtain ⟨a, c, el⟩ : ∃ a c, lv = .slice a z.length c := by
    obtain ⟨a, len, c, rfl, e⟩ := hv.len
    rw [List.length_map, Nat.mul_one] at e; subst e
    exact ⟨a, c, rfl⟩
  subst el
  obtain ⟨a1, c1, e1, hrn⟩ := (IL.of_vec hv).ex
  simp only [Value.slice.injEq] at e1
  obtain ⟨rfl, -, rfl⟩ := e1
  refine callF_of Tryz.func59 rfl Tryz.ntmps59 Tryz.results59 (by decide) rfl ?_
  simp (disch := omega) only [go_sem, ↓cw_block, dsB_of]
  refine call_to (cNorm_spec hrn (by
    intro x hx
    have := hz.lit x hx
    unfold litB
    simp only [decide_eq_true_eq]
    omega) (by omega)) ?_
  rintro v H1 ⟨f1, w, zs, idle, rfl, v1, o1, hnf⟩
  have hno : ∀ m, AllB m (z.map codeN :: G) → AllB m G := fun m hm y hy => hm y (by simp [hy])
  have m1 := h.sb.m.out f1 (by simp)
  have sb1 : SB H1 ow p n k f := ⟨m1, h.sb.r, h.sb.inv, h.sb.wi, h.sb.le, h.sb.hin, h.sb.sn, h.sb.stp, h.sb.n⟩
  have e01 : Ex H ow H1 ow := Ex.of (Sm.of (R := fun _ => False) f1 (by simp)) (by simp)
  by_cases hidle : idle = true
  · subst hidle
    simp (disch := omega) only [go_sem, ↓cw_block, dsB_of, dsB_of]
    obtain ⟨x, hx1, hx2⟩ := hnf.idle.1 rfl
    have hx0 := (hz.lit x ((hnf.mem x).1 hx1)).1
    refine fin ⟨rfl, ow, f, ⟨sb1, h.st, fun hd => (h.ok hd).given (.inl ⟨codeN x, List.mem_map.2 ⟨x, (hnf.mem x).1 hx1, rfl⟩, by rw [codeN_neg hx0]; exact List.mem_map.2 ⟨-x, (hnf.mem _).1 hx2, rfl⟩⟩), fun hd m hm hG => h.no hd m hm (hno m hG)⟩, e01, rfl, by omega, id⟩
  · have hid : idle = false := by simpa using hidle
    subst hid
    have hnt : ¬ ∃ x ∈ z, -x ∈ z := by
      rintro ⟨x, h1, h2⟩
      have := hnf.idle.2 ⟨x, (hnf.mem x).2 h1, (hnf.mem _).2 h2⟩
      cases this
    have hnd := ltN_codes hz.lit hz.str hnt
    obtain ⟨G1, hG⟩ : ∃ G1, H1.push (.cells (List.replicate z.length (iv 0)).toArray 3) = G1 := ⟨_, rfl⟩
    have f2 : Fr [] H1 G1 := by rw [← hG]; exact Fr.push
    have vG : Vec G1 3 1 (.slice (some ⟨H1.size, 0, none⟩) 0 z.length) [] := ⟨.inr ⟨H1.size, 0, z.length, [], List.replicate z.length (iv 0), rfl, by rw [← hG]; exact Blk.new rfl, rfl, by simp, by omega⟩⟩
    have hf12 := f1.trans f2
    simp (disch := omega) only [go_sem, dsB_of, hG]
    refine cut_at (fun ρ H2 => ∃ wv, (ρ.get 0 = hp p ∧ ρ.get 6 = wv ∧ ρ.ds = []) ∧ Fr [] H H2 ∧ Vec H2 3 1 wv (nv (lft f.s (z.map codeN))) ∧ (∀ b ∈ own wv, H.size ≤ b) ∧ (∀ y ∈ z.map codeN, y ∉ f.tr)) ?_ ?_
    · simp (disch := omega) only [go_sem, ↓cw_block, dsB_of]
      refine loop_by (fun j ρ H2 => ∃ (i : Nat) (wv : Value), j = z.length - i ∧ i ≤ z.length ∧ (ρ.get 0 = hp p ∧ ρ.get 6 = wv ∧ ρ.get 19 = .slice a z.length c ∧ ρ.get 20 = iv z.length ∧ ρ.get 21 = iv i ∧ ρ.ds = []) ∧
        Fr [] H H2 ∧ Vec H2 3 1 wv (nv (lft f.s ((z.take i).map codeN))) ∧ (∀ b ∈ own wv, H.size ≤ b) ∧ (∀ y ∈ (z.take i).map codeN, y ∉ f.tr)) (k := z.length) ?_ ?_
      · exact ⟨0, _, rfl, by omega, by simp (disch := omega) only [go_sem, ↓cw_block, dsB_of]; rfl, hf12, by simpa [nv, lft] using vG, by have := f1.size; simp [own]; omega, by simp⟩
      · rintro _ ρ H2 ⟨i, wv, rfl, hil, ⟨r0, r6, r19, r20, r21, rd⟩, f3, v3, o3, n3⟩
        by_cases hie : i = z.length
        · subst hie
          rw [List.take_length] at v3 n3
          simp (disch := omega) only [go_sem, ↓cw_block, dsB_of, r0, r6, r19, r20, r21, rd]
          exact fin ⟨wv, by simp (disch := omega) only [go_sem, ↓cw_block, dsB_of, r0, r6, rd], f3, v3, o3, n3⟩
        · obtain ⟨x, hx⟩ : ∃ x, z[i]? = some x := ⟨_, List.getElem?_eq_getElem (by omega)⟩
          have hxl := hz.lit x (List.mem_of_getElem? hx)
          have hxc := codeN_isC hxl.1 hxl.2
          obtain ⟨x1, x2, x3, x4⟩ := isC_lt hxc
          obtain ⟨b, o, cap, e, kx⟩ := vec_cell (hv.frame f3 (by simp)) (i := i) (u := iv x) (by simp [hx])
          simp only [Value.slice.injEq] at e
          obtain ⟨rfl, -, rfl⟩ := e
          have m3 := h.sb.m.out f3 (by simp)
          have c9 : cellH H2 ⟨p, 9, none⟩ = some (sl k.bv (2 * n + 2)) := m3.c 9
          have cv := m3.cval h.sb.r x1
          have hi1 : (i : Int) + 1 = ((i + 1 : Nat) : Int) := by omega
          have htk : (z.take (i + 1)).map codeN = (z.take i).map codeN ++ [codeN x] := by
            rw [List.take_add_one, hx]; simp
          simp (disch := omega) only [go_sem, ↓cw_block, dsB_of, r19, r20, r21, kx]
          refine call_to (sCode_spec (l := x) (by omega)) ?_
          rintro v H3 ⟨rfl, rfl⟩
          by_cases hpos : 0 < f.s.val (codeN x)
          · simp (disch := omega) only [go_sem, ↓cw_block, dsB_of, r0, r6, c9, cv, dsB_of, rd]
            obtain ⟨q, hq⟩ := List.getElem?_of_mem (val_pos.1 hpos)
            have sb3 : SB H3 ow p n k f := ⟨m3, h.sb.r, h.sb.inv, h.sb.wi, h.sb.le, h.sb.hin, h.sb.sn, h.sb.stp, h.sb.n⟩
            exact fin ⟨rfl, ow, f, ⟨sb3, h.st, fun hd => (h.ok hd).given (.inr (.inl ⟨codeN x, List.mem_map.2 ⟨x, List.mem_of_getElem? hx, rfl⟩, q, hq, by show lev f.st q = 0; rw [h.st]; rfl⟩)), fun hd m hm hG => h.no hd m hm (hno m hG)⟩, Ex.of (Sm.of (R := fun _ => False) f3 (by simp)) (by simp), rfl, by omega, id⟩
          · have hnt : codeN x ∉ f.tr := fun e => hpos (val_pos.2 e)
            have n4 : ∀ y ∈ (z.take (i + 1)).map codeN, y ∉ f.tr := by
              rw [htk]
              intro y hy
              rcases List.mem_append.1 hy with hy | hy
              · exact n3 y hy
              · have := List.mem_singleton.1 hy; subst this; exact hnt
            by_cases h0 : f.s.val (codeN x) = 0
            · have hlf : lft f.s ((z.take (i + 1)).map codeN) = lft f.s ((z.take i).map codeN) ++ [codeN x] := by
                rw [htk]; unfold lft; rw [List.filter_append]; simp [h0]
              have hll : (lft f.s ((z.take i).map codeN)).length ≤ i := by
                have := List.length_filter_le (fun y => decide (f.s.val y = 0)) ((z.take i).map codeN)
                rw [List.length_map, List.length_take] at this
                unfold lft; omega
              rw [h0] at cv
              simp (disch := omega) only [go_sem, ↓cw_block, dsB_of, r0, r6, c9, cv]
              refine app_lit1 T.el26 rfl v3 rfl (by rw [nv_len]; omega) ?_
              intro v' H4 g1 g2 g3 g4
              simp (disch := omega) only [go_sem, ↓cw_block, dsB_of, r0, r6, r19, r20, r21, rd]
              refine fin ⟨z.length - (i + 1), by omega, i + 1, v', rfl, by omega, by simp (disch := omega) only [go_sem, ↓cw_block, dsB_of, r0, r6, r19, r20, r21, rd, hi1], ⟨Nat.le_trans f3.size g2.size, fun q hq _ => ?_⟩, by rw [hlf]; simpa [nv] using g1, fun q hq => ?_, n4⟩
              · rw [g2.same q (by have := f3.size; omega) (fun e => by have := o3 q e; omega), f3.same q hq (by simp)]
              · rcases g3 q hq with h | h
                · exact o3 q h
                · have := f3.size; omega
            · have hlf : lft f.s ((z.take (i + 1)).map codeN) = lft f.s ((z.take i).map codeN) := by
                rw [htk]; unfold lft; rw [List.filter_append]; simp [h0]
              simp (disch := omega) only [go_sem, ↓cw_block, dsB_of, r0, r6, r19, r20, r21, rd, c9, cv]
              refine fin ⟨z.length - (i + 1), by omega, i + 1, wv, rfl, by omega, by simp (disch := omega) only [go_sem, ↓cw_block, dsB_of, r0, r6, r19, r20, r21, rd, hi1], f3, by rw [hlf]; exact v3, o3, n4⟩
    · rintro ρ H2 ⟨wv, ⟨r0, r6, rd⟩, f3, v3, o3, n3⟩
      obtain ⟨l, hl⟩ : ∃ l, l = lft f.s (z.map codeN) := ⟨_, rfl⟩
      rw [← hl] at v3
      have m3 := h.sb.m.out f3 (by simp)
      have sb3 : SB H2 ow p n k f := ⟨m3, h.sb.r, h.sb.inv, h.sb.wi, h.sb.le, h.sb.hin, h.sb.sn, h.sb.stp, h.sb.n⟩
      have e03 : Ex H ow H2 ow := Ex.of (Sm.of (R := fun _ => False) f3 (by simp)) (by simp)
      have hlm : ∀ y, y ∈ l ↔ y ∈ z.map codeN ∧ y ∉ f.tr ∧ neg y ∉ f.tr := fun y => by rw [hl]; exact lft_mem
      have hlc : ∀ y ∈ l, isC n y := fun y hy => by
        obtain ⟨x, hx, rfl⟩ := List.mem_map.1 ((hlm y).1 hy).1
        exact codeN_isC (hz.lit x hx).1 (hz.lit x hx).2
      have hlnd : (l.map (· / 2)).Nodup := by rw [hl]; exact lft_nodup hnd
      have hll : l.length ≤ n := codes_len hlc hlnd
      have hso : f.dead = false → ∀ m, Mdl m → AllB m (z.map codeN :: G) → ∃ y ∈ l, m y = true := fun hd m hm hG => by
        obtain ⟨y, h1, h2, h3⟩ := left_so (h.ok hd) h.st hm hG
        exact ⟨y, (hlm y).2 ⟨h1, n3 y h1, h3⟩, h2⟩
      have hdn : f.dead = true → ∀ m, Mdl m → ¬ AllB m (z.map codeN :: G) := fun hd m hm hG => h.no hd m hm (hno m hG)
      have hst0 : f.st.length ≤ 1000000 := by rw [h.st]; simp
      obtain ⟨la, lc, ew⟩ : ∃ a c, wv = .slice a l.length c := by
        obtain ⟨a, len, c, rfl, e⟩ := v3.len
        rw [nv_len, Nat.mul_one] at e; subst e
        exact ⟨a, c, rfl⟩
      subst ew
      match l, hlm, hlc, hlnd, hso, hll, v3, r6 with
      | [], hlm, hlc, hlnd, hso, hll, v3, r6 =>
        have r6' : ρ.get 6 = .slice la 0 lc := r6
        obtain ⟨H4, w4, (m4 : RM _ _ _ _ _ _), e4⟩ := m3.putDead true
        simp (disch := omega) only [go_sem, ↓cw_block, dsB_of, r0, r6', rd, w4, dsB_of]
        refine fin ⟨rfl, ow, f.uDead true, ⟨⟨m4, ⟨h.sb.r.vals, h.sb.r.lv⟩, h.sb.inv, h.sb.wi, h.sb.le, h.sb.hin, h.sb.sn, h.sb.stp, h.sb.n⟩, h.st, (fun e => nomatch e), fun _ m hm hG => ?_⟩, e03.trans e4, rfl, by show f.C.length ≤ _; omega, fun _ => rfl⟩
        by_cases hd : f.dead = true
        · exact hdn hd m hm hG
        · obtain ⟨y, hy, _⟩ := hso (by simpa using hd) m hm hG
          simp at hy
      | [x], hlm, hlc, hlnd, hso, hll, v3, r6 =>
        have r6' : ρ.get 6 = .slice la 1 lc := r6
        have hx := (hlm x).1 (by simp)
        obtain ⟨b, o, cap, e, kx⟩ := vec_cell v3 (i := 0) (u := iv x) rfl
        simp only [Value.slice.injEq] at e
        obtain ⟨rfl, -, rfl⟩ := e
        rw [Nat.add_zero] at kx
        simp (disch := omega) only [go_sem, ↓cw_block, dsB_of, r0, r6', rd]
        refine draw0 (lk [(0, true), (1, true), (2, true), (3, true), (4, true), (5, true)] (.act 6 .fin .non)) T.mixed ?_
        simp (disch := omega) only [go_sem, ↓cw_block, dsB_of, r0, r6', rd, kx]
        refine call_to (sSet_spec m3 h.sb.r h.sb.inv hn (hlc x (by simp)) hx.2.1 hx.2.2 hst0 none) ?_
        rintro v H4 ⟨rfl, ow4, vs, lv4, la4, v4, m4, r4, e4⟩
        simp (disch := omega) only [go_sem, ↓cw_block, dsB_of, dsB_of, rd]
        have hiv : Inv n (f.s.push x none) := h.sb.inv.push (hlc x (by simp)) hx.2.1 hx.2.2 (fun c hc => by simp at hc) (fun _ => .inl h.st)
        refine fin ⟨rfl, ow4, f.push x none vs lv4 la4 v4, ⟨⟨m4, r4, hiv, h.sb.wi.push (fun c hc => by simp at hc), by have := h.sb.le; show f.head ≤ (f.tr ++ [x]).length; simp; omega, h.sb.hin.pre (List.prefix_append _ _) (fun v => Iff.rfl), h.sb.sn, h.sb.stp, h.sb.n⟩, h.st, fun hd => ?_, hdn⟩, e03.trans e4, rfl, by show f.C.length ≤ _; omega, id⟩
        refine (h.ok hd).gunit h.st (hlc x (by simp)) hx.2.1 hx.2.2 hx.1 (fun m hm hG => ?_)
        obtain ⟨y, hy, hmy⟩ := hso hd m hm hG
        have := List.mem_singleton.1 hy; subst this; exact hmy
      | x :: y :: t, hlm, hlc, hlnd, hso, hll, v3, r6 =>
        obtain ⟨l, hl'⟩ : ∃ l, l = x :: y :: t := ⟨_, rfl⟩
        have hl2 : l.length = t.length + 2 := by rw [hl']; rfl
        rw [← hl'] at hlm hlc hlnd hso hll v3 r6
        obtain ⟨b5, o5, c5, e5', k05⟩ := vec_cell v3 (i := 0) (u := iv x) (by rw [hl']; rfl)
        rw [nv_len] at e5'
        simp only [Value.slice.injEq] at e5'
        obtain ⟨rfl, -, rfl⟩ := e5'
        have bl := build_of (P := Tryz.prog) (t := 106) (parts := [(0, .slice (some ⟨b5, o5, none⟩) l.length lc)]) (v := .agg #[.slice (some ⟨b5, o5, none⟩) l.length lc, iv 0, .bool false])
          (by simp [buildL, T.places106, T.zero106, fillL, setR, chk, Value.cells])
        obtain ⟨H6, hH6⟩ : ∃ H6, H2.push (.cells #[.slice (some ⟨b5, o5, none⟩) l.length lc, iv 0, .bool false] 106) = H6 := ⟨_, rfl⟩
        have f6 : Fr [] H2 H6 := by rw [← hH6]; exact Fr.push
        have hbk : Blk H6 H2.size 106 [.slice (some ⟨b5, o5, none⟩) l.length lc, iv ((0 : Nat) : Int), .bool false] := by rw [← hH6]; exact Blk.new rfl
        have hb5 : H.size ≤ b5 := o3 b5 (by simp [own])
        have hb5' : b5 < H2.size := v3.lt b5 (by simp [own])
        have how5 : ow b5 = 0 := h.sb.m.free hb5
        obtain ⟨ow6, how6⟩ : ∃ ow6 : Nat → Nat, ow6 = fun b => if b = H2.size then 18 else if b = b5 then 101 + 2 * H2.size else ow b := ⟨_, rfl⟩
        have z5 : ow H2.size = 0 := m3.free (Nat.le_refl _)
        have m6a := m3.out f6 (by simp)
        have hz6 : H6.size = H2.size + 1 := by rw [← hH6]; simp
        have m6b := m6a.adopt (ow' := ow6) (fun b hb => by
          have n1 : b ≠ H2.size := fun e => hb (by rw [e]; exact z5)
          have n2 : b ≠ b5 := fun e => hb (by rw [e]; exact how5)
          rw [how6]; simp only
          rw [if_neg n1, if_neg n2]) (fun b hb => by
          rw [how6] at hb; simp only at hb
          split at hb
          · omega
          · split at hb
            · omega
            · have := m3.lo b hb; omega)
        have hcn : H2.size ∉ f.C := fun e => by
          have := (m3.con _ e).blk.blk.lt; omega
        have hCR : CR H6 ow6 H2.size (.slice (some ⟨b5, o5, none⟩) l.length lc) l 0 := by
          refine ⟨⟨hbk, by rw [how6]; simp⟩, ⟨v3.frame f6 (by simp), fun b hb => ?_⟩⟩
          simp only [own, List.mem_singleton] at hb
          rw [hb, how6]
          show (if b5 = H2.size then 18 else if b5 = b5 then 101 + 2 * H2.size else ow b5) = _
          rw [if_neg (by omega), if_pos rfl]
        have m6 := m6b.addCon hcn hCR
        have e06 : Ex H ow H6 ow6 := (e03.trans (Ex.of (Sm.of (R := fun _ => False) f6 (by simp)) (by simp))).reow (fun b hb => by
          rw [how6]; simp only
          have := e03.sm.size
          rw [if_neg (by omega), if_neg (by omega)])
        have hxl := (hlm x).1 (by rw [hl']; simp)
        have hyl := (hlm y).1 (by rw [hl']; simp)
        have hxy : x ≠ y := by
          intro e
          have := hlnd
          rw [hl', e] at this
          simp at this
        simp (disch := omega) only [go_sem, ↓cw_block, dsB_of, r0, r6, rd, bl]
        rw [hH6]
        refine call_to (sAttach_spec m6 (c := H2.size) (a := x) (b := y) (r := t) (by show H2.size ∈ H2.size :: f.C; simp) (by show upd f.lits H2.size l H2.size = _; rw [upd_same]; exact hl') (isC_lt (hlc x (by rw [hl']; simp))).1 (isC_lt (hlc y (by rw [hl']; simp))).1 hxy (fun z => by
          have hh := h.sb.wi.len z
          show (f.w z).length ≤ _
          have hh : (f.w z).length ≤ f.C.length := hh
          omega)) ?_
        rintro v H8 ⟨rfl, ow8, ws8, m8, e8⟩
        simp (disch := omega) only [go_sem, ↓cw_block, dsB_of, dsB_of, rd]
        have hiv : Inv n (f.s.lit H2.size l) := h.sb.inv.lits fun i z q hi hq => upd_ne fun e => hcn (e ▸ h.sb.wi.rs i z q hi hq)
        have hwi : WI n (f.s.lit H2.size l) (H2.size :: f.C) (att f.w H2.size x y) := by rw [hl']; exact h.sb.wi.attach hcn (by rw [← hl']; exact ⟨hlc, hlnd⟩)
        refine fin ⟨rfl, ow8, _, ⟨⟨m8, ⟨h.sb.r.vals, h.sb.r.lv⟩, hiv, hwi, h.sb.le, h.sb.hin, h.sb.sn, h.sb.stp, h.sb.n⟩, h.st, fun hd => ?_, hdn⟩, e06.trans e8, rfl, by show (H2.size :: f.C).length ≤ _; simp, id⟩
        show SI n (f.s.lit H2.size l) (H2.size :: f.C) (att f.w H2.size x y) (z.map codeN :: G) f.head
        rw [hl']
        exact (h.ok hd).gattach hcn (by rw [← hl']; exact ⟨hlc, hlnd⟩) hxl.2.2 hyl.2.2 (by rw [← hl']; exact fun y hy => ((hlm y).1 hy).1) (by rw [← hl']; exact hso hd)
end
end Go.Proofs.YtofooamimiijlaaGreat

