
/- Closed runs: copy, clear, append of zeros; functions; every operation. -/
import Derived.Test.YtndbdehpkiimjaaGreatRunO
namespace Go.Run
open Go.HL
set_option linter.unusedSimpArgs false
set_option linter.unusedVariables false
variable {σ : Nat → Value} {F : Nat → Option Obj} {φ : Phi} {A : AH} {H : Heap} {P : Program} {V : HV}
noncomputable section
set_option linter.unusedVariables false

def undA : AV := .t []
theorem VR_und : VR σ φ undA undef := by simp only [undA, VR]; exact ⟨#[], rfl, by simp [VRl]⟩

/-! ### copy -/
def minN (a b : Nat) : Nat := @Bool.rec (fun _ => Nat) b a (Nat.ble a b)
theorem minN_eq (a b : Nat) : minN a b = min a b := by
  unfold minN
  cases h : Nat.ble a b with
  | true => have := Nat.le_of_ble_eq_true h; exact (Nat.min_eq_left this).symm
  | false =>
    have : b ≤ a := by
      rcases Nat.le_total a b with h' | h'
      · rw [Nat.ble_eq_true_of_le h'] at h; cases h
      · exact h'
    exact (Nat.min_eq_right this).symm
def lenK (x : AV) (k : Nat → Bool) : Bool := x.on_q (fun _ _ len _ _ _ => k len) (nilS x (k 0))
def srcN (A : AH) (x : AV) (z n : Nat) (k : List AV → Bool) : Bool := ifB (Nat.beq n 0) (k []) (x.on_q (fun d o _ _ _ _ => (A.get d).on_c (fun _ blen t => ifB (Nat.ble (Nat.add o (Nat.mul n z)) blen) (k (rowA t o (Nat.mul n z))) false) false) false)
def cpyA (A : AH) (dst src : AV) (z : Nat) (k : AV → AH → Bool) : Bool :=
  lenK src fun m => dst.on_q (fun d o len _ _ _ => frc (minN m len) fun n => ifB (Nat.blt n 9223372036854775808) (srcN A src z n fun l => stN A (.p d o) l fun A => k (.n n) A) false) (nilS dst (k (.n 0) A))
theorem nilS_ok {q : AV} {w : Value} {x : Bool} (hq : VR σ φ q w) (h : nilS q x = true) : w = .slice none 0 0 ∧ x = true := by
  unfold nilS at h
  rcases AV.on_nil_eq q (fun g => ifB (Nat.beq g 1) x false) false with ⟨g, rfl, e⟩ | e
  · rw [e] at h
    obtain ⟨h1, h2⟩ := ifB_and h
    have := Nat.eq_of_beq_eq_true h1
    subst this
    simp only [VR, nilOf] at hq
    exact ⟨hq, h2⟩
  · rw [e] at h; cases h
theorem lenK_ok {x : AV} {w : Value} {k : Nat → Bool} (hx : VR σ φ x w) (h : lenK x k = true) : ∃ b n c, w = .slice b n c ∧ k n = true ∧ (n ≠ 0 → ∃ d o cap z ex, x = .q d o n cap z ex) := by
  unfold lenK at h
  rcases AV.on_q_eq x (fun _ _ len _ _ _ => k len) (nilS x (k 0)) with ⟨d, o, len, cap, z, ex, rfl, e⟩ | e
  · rw [e] at h
    simp only [VR] at hx
    obtain ⟨e, y, c, _, rfl, _⟩ := hx
    exact ⟨_, _, _, rfl, h, fun _ => ⟨d, o, cap, z, ex, rfl⟩⟩
  · rw [e] at h
    obtain ⟨rfl, h⟩ := nilS_ok hx h
    exact ⟨_, _, _, rfl, h, fun hh => absurd rfl hh⟩
theorem srcN_ok {x : AV} {b : Option Addr} {len c z n : Nat} {k : List AV → Bool} (h : Rel σ F φ A H) (hx : VR σ φ x (.slice b len c)) (hn : n ≤ len) (hk : srcN A x z n k = true) :
    ∃ l ws, srcCells H z n (.slice b len c) = some ws ∧ VRl σ φ l ws ∧ l.length = n * z ∧ k l = true := by
  unfold srcN at hk
  cases hb : Nat.beq n 0 with
  | true =>
    rw [hb] at hk
    have := Nat.eq_of_beq_eq_true hb
    subst this
    refine ⟨[], [], ?_, by simp [VRl], by simp, hk⟩
    cases b <;> simp [srcCells, cellsH]
  | false =>
    rw [hb] at hk
    have hn0 := beq_f hb
    obtain ⟨d, o, len', cap, z', ex, e, y, c', rfl, h1, h2, h3, h4, h5, h6, h7, hk2⟩ := on_q_sound hx (show x.on_q _ false = true from hk)
    clear hk
    simp only [Value.slice.injEq] at h2
    obtain ⟨rfl, rfl, rfl⟩ := h2
    rcases AB.on_c_eq (A.get d) (fun _ blen t => ifB (Nat.ble (Nat.add o (Nat.mul n z)) blen) (k (rowA t o (Nat.mul n z))) false) false with ⟨ro, blen, t, hg, e'⟩ | e'
    · rw [e'] at hk2
      obtain ⟨g1, hk⟩ := ifB_and hk2
      have g1 := Nat.le_of_ble_eq_true g1
      obtain ⟨ws, a1, a2⟩ := h.row hg h1 (n * z) o 0 (by simpa using g1)
      refine ⟨_, ws, ?_, a2, rowA_length _ _ _, hk⟩
      simp only [srcCells]
      rw [h6 (.inl (by omega))]
      exact a1
    · rw [e'] at hk2; cases hk2
theorem cpyA_ok {t t2 e ty z : Nat} {dst src : AV} {wd ws : Value} {k : AV → AH → Bool} {Q : Value → Heap → Prop} {E : Value → Heap → Prop} (h : Rel σ F φ A H) (ht : P.underlying t = some (.slice e)) (hz : sizeT P e = some z)
    (hd : VR σ φ dst wd) (hs : VR σ φ src ws) (hQ : ∀ v A' w H', Rel σ F φ A' H' → VR σ φ v w → k v A' = true → Q w H') (hk : cpyA A dst src z k = true) : hwp P (Builtin.copy_ #[t, t2] ty #[wd, ws]) H Q E := by
  obtain ⟨b, m, c, rfl, hk, hb⟩ := lenK_ok hs hk
  unfold Builtin.copy_
  simp only [List.getElem?_toArray, List.getElem?_cons_zero, List.getElem?_cons_succ]
  refine hwp_qbind (qrun_underlying ht H) ?_
  simp only
  rcases AV.on_q_eq dst (fun d o len _ _ _ => frc (minN m len) fun n => ifB (Nat.blt n 9223372036854775808) (srcN A src z n fun l => stN A (.p d o) l fun A => k (.n n) A) false) (nilS dst (k (.n 0) A)) with ⟨d, o, len, cap, z', ex, rfl, e'⟩ | e'
  · rw [e', frc_eq, minN_eq] at hk
    simp only [VR] at hd
    obtain ⟨en, y, c', g1, rfl, g3, g4, g5, g6, g7⟩ := hd
    obtain ⟨hlt, hk⟩ := ifB_and hk
    have hlt := blt_t hlt
    obtain ⟨l, vs, h1, h2, h3, hk⟩ := srcN_ok h hs (Nat.min_le_left m len) hk
    refine hwp_qbind (a := m) rfl ?_
    refine hwp_qbind (qrun_sizeOf hz H) ?_
    refine hwp_qbind (qrun_firstCells h1) ?_
    simp only
    obtain ⟨a, A', H', s1, s2, s3, s4⟩ := stN_sound h (p := .p d o) (w := .pointer (some ⟨en.r, en.s + o, none⟩)) (by simp only [VR]; exact ⟨en, g1, rfl⟩) h2 hk
    simp only [Value.pointer.injEq, Option.some.injEq] at s1
    subst s1
    rw [hwp_bind']
    have hst : storeCellsH H ⟨en.r, y, none⟩ vs 0 = some H' := by
      by_cases hc : cap = 0
      · have hl : l.length = 0 := by rw [h3, show min m len = 0 by omega, Nat.zero_mul]
        have hv : vs = [] := by apply List.eq_nil_of_length_eq_zero; rw [← h2.length]; exact hl
        rw [hv] at s2 ⊢
        exact s2
      · rw [g6 (.inl hc)]; exact s2
    refine hwp_storeCells _ 0 H H' (by simpa using hst) ?_
    refine hQ _ A' _ H' s3 ?_ s4
    simp only [VR]
    exact ⟨rfl, by omega⟩
  · rw [e'] at hk
    obtain ⟨rfl, hk⟩ := nilS_ok hd hk
    refine hwp_qbind (a := m) rfl ?_
    refine hwp_qbind (qrun_sizeOf hz H) ?_
    refine hwp_qbind (qrun_firstCells (l := []) (by cases b <;> simp [srcCells, cellsH])) ?_
    exact hQ _ A _ H h (by simp [VR, Builtin.lenOf, goInt]) hk

/-! ### clear -/
def clrA (A : AH) (q : AV) (i : TI) (k : AV → AH → Bool) : Bool := q.on_q (fun d o len _ _ _ => ifB (Nat.ble (Nat.mul len i.size) 65536) (stN A (.p d o) (repL len i.zero) fun A => k undA A) false) (nilS q (k undA A))
theorem clrA_ok {t e ty : Nat} {i : TI} {q : AV} {w : Value} {k : AV → AH → Bool} {Q : Value → Heap → Prop} {E : Value → Heap → Prop} (h : Rel σ F φ A H) (ht : P.underlying t = some (.slice e)) (hi : TIok P e i)
    (hq : VR σ φ q w) (hQ : ∀ A' H', Rel σ F φ A' H' → k undA A' = true → Q undef H') (hk : clrA A q i k = true) : hwp P (Builtin.clear_ #[t] ty #[w]) H Q E := by
  unfold Builtin.clear_
  simp only [List.getElem?_toArray, List.getElem?_cons_zero]
  refine hwp_qbind (qrun_underlying ht H) ?_
  obtain ⟨z, hz, hzs, hv⟩ := hi.zer
  unfold clrA at hk
  rcases AV.on_q_eq q (fun d o len _ _ _ => ifB (Nat.ble (Nat.mul len i.size) 65536) (stN A (.p d o) (repL len i.zero) fun A => k undA A) false) (nilS q (k undA A)) with ⟨d, o, len, cap, z', ex, rfl, e'⟩ | e'
  · rw [e'] at hk
    obtain ⟨hs, hk⟩ := ifB_and hk
    simp only [VR] at hq
    obtain ⟨en, y, c', g1, rfl, g3, g4, g5, g6, g7⟩ := hq
    have hr := repL_ok (n := len) (hv σ φ)
    obtain ⟨a, A', H', s1, s2, s3, s4⟩ := stN_sound h (p := .p d o) (w := .pointer (some ⟨en.r, en.s + o, none⟩)) (by simp only [VR]; exact ⟨en, g1, rfl⟩) hr hk
    simp only [Value.pointer.injEq, Option.some.injEq] at s1
    subst s1
    cases len with
    | zero =>
      have e0 : (mkCells z.cells (0 * z.cells.size)).toList = [] := by simp [mkCells]
      rw [e0] at s2
      simp only [storeCellsH, Option.some.injEq] at s2
      subst s2
      exact hQ A' H s3 s4
    | succ n =>
      have hcap : cap ≠ 0 := by omega
      simp only
      refine hwp_qbind (qrun_zeroValue hz H) ?_
      rw [hwp_bind']
      refine hwp_storeCells (Builtin.zeroCells z.cells (n + 1)).toList 0 H H' ?_ (hQ A' H' s3 s4)
      rw [g6 (.inl hcap)]
      exact s2
  · rw [e'] at hk
    obtain ⟨rfl, hk⟩ := nilS_ok hq hk
    exact hQ A H h hk

/-! ### append of zeros -/
def appZ (A : AH) (q n : AV) (i : TI) (k : AV → AH → Bool) : Bool := n.on_n (fun n => ifB (Nat.ble n 60000) (ifB (Nat.ble i.bytes 1048576) (appC A q n (repL n i.zero) i.size k) false) false) false
theorem appZ_ok {t xt e ty : Nat} {g : IntKind} {i : TI} {q n : AV} {w wn : Value} {k : AV → AH → Bool} {K : Value → Heap → Prop} {E : Value → Heap → Prop} (h : Rel σ F φ A H) (hq : VR σ φ q w) (hn : VR σ φ n wn)
    (he : P.underlying t = some (.slice e)) (hi : TIok P e i) (hd : P.underlying xt = some (.int g))
    (hK : ∀ v A' φ' w' H', φ.le φ' → Rel σ F φ' A' H' → VR σ φ' v w' → k v A' = true → K w' H') (hk : appZ A q n i k = true) : hwp P (Builtin.append_ #[t, xt] ty #[w, wn]) H K E := by
  unfold appZ at hk
  rcases AV.on_n_eq n (fun n => ifB (Nat.ble n 60000) (ifB (Nat.ble i.bytes 1048576) (appC A q n (repL n i.zero) i.size k) false) false) false with ⟨n, rfl, e'⟩ | e'
  · rw [e'] at hk
    obtain ⟨h1, hk⟩ := ifB_and hk
    obtain ⟨h2, hk⟩ := ifB_and hk
    have h1 := Nat.le_of_ble_eq_true h1
    have h2 := Nat.le_of_ble_eq_true h2
    simp only [VR] at hn
    obtain ⟨rfl, _⟩ := hn
    obtain ⟨z, hz, hzs, hv⟩ := hi.zer
    refine hwp_appendZ he hi.size hi.bytes hz hzs hd h1 h2 ?_
    exact appC_ok h hq (repL_ok (hv σ φ)) (by rw [repL_len, hi.len]) h2 hzs hK hk
  · rw [e'] at hk; cases hk

/-! ### Functions -/
abbrev FF : Nat → Type := fun n => @Nat.rec (fun _ => Type) (AH → (AV → AH → Bool) → Bool) (fun _ t => AV → t) n
abbrev appF (n : Nat) : FF n → List AV → AH → (AV → AH → Bool) → Bool :=
  @Nat.rec (fun n => FF n → List AV → AH → (AV → AH → Bool) → Bool) (fun g l A K => @List.rec AV (fun _ => Bool) (g A K) (fun _ _ _ => false) l)
    (fun _ ih g l A K => @List.rec AV (fun _ => Bool) false (fun x r _ => ih (g x) r A K) l) n
theorem appF_len {K : AV → AH → Bool} : ∀ (n : Nat) (g : FF n) (l : List AV), appF n g l A K = true → l.length = n
  | 0, g, [], _ => rfl
  | 0, g, _ :: _, h => by cases h
  | n + 1, g, [], h => by cases h
  | n + 1, g, x :: l, h => by simp [appF_len n (g x) l h]
structure FE where
  f : Nat
  n : Nat
  g : FF n
  p : List AV → (AV → Bool) → Bool
def noP : List AV → (AV → Bool) → Bool := fun _ _ => false
abbrev FT := List FE
abbrev withF (Tb : FT) (f : Nat) (k : FE → Bool) : Bool := @List.rec FE (fun _ => Bool) false (fun e _ ih => @Bool.rec (fun _ => Bool) ih (k e) (Nat.beq e.f f)) Tb
/-- How a call ends. -/
def RK (σ : Nat → Value) (F : Nat → Option Obj) (φ0 : Phi) (K : AV → AH → Bool) (v : Value) (H : Heap) : Prop := ∃ φ a A, φ0.le φ ∧ VR σ φ a v ∧ Rel σ F φ A H ∧ K a A = true
def FOK (P : Program) (f n : Nat) (g : FF n) : Prop :=
  ∀ (σ : Nat → Value) (F : Nat → Option Obj) (φ : Phi) (A : AH) (H : Heap) (args : List AV) (ws : List Value) (K : AV → AH → Bool), Rel σ F φ A H → VRl σ φ args ws → appF n g args A K = true → CallF P f ws H (RK σ F φ K) NoP
/-- A function that looks at nothing and changes nothing. -/
def PUR (P : Program) (f : Nat) (p : List AV → (AV → Bool) → Bool) : Prop :=
  ∀ (σ : Nat → Value) (φ : Phi) (args : List AV) (ws : List Value) (k : AV → Bool), VRl σ φ args ws → p args k = true → ∃ v w, VR σ φ v w ∧ k v = true ∧ ∀ H, CallF P f ws H (fun r H' => r = w ∧ H' = H) NoP
def TOK (P : Program) (Tb : FT) : Prop := ∀ e ∈ Tb, FOK P e.f e.n e.g ∧ PUR P e.f e.p
theorem withP_ok {Tb : FT} (hT : TOK P Tb) {f : Nat} {k : FE → Bool} (h : withF Tb f k = true) : ∃ e : FE, PUR P f e.p ∧ k e = true := by
  induction Tb with
  | nil => cases h
  | cons e Tb ih =>
    replace h : @Bool.rec (fun _ => Bool) (withF Tb f k) (k e) (Nat.beq e.f f) = true := h
    cases hb : Nat.beq e.f f with
    | true =>
      rw [hb] at h
      have := Nat.eq_of_beq_eq_true hb
      subst this
      exact ⟨e, (hT e (by simp)).2, h⟩
    | false => rw [hb] at h; exact ih (fun x hx => hT x (by simp [hx])) h
theorem withF_ok {Tb : FT} (hT : TOK P Tb) {f : Nat} {k : FE → Bool} (h : withF Tb f k = true) : ∃ e, FOK P f e.n e.g ∧ k e = true := by
  induction Tb with
  | nil => cases h
  | cons e Tb ih =>
    replace h : @Bool.rec (fun _ => Bool) (withF Tb f k) (k e) (Nat.beq e.f f) = true := h
    cases hb : Nat.beq e.f f with
    | true =>
      rw [hb] at h
      have := Nat.eq_of_beq_eq_true hb
      subst this
      exact ⟨e, (hT e (by simp)).1, h⟩
    | false => rw [hb] at h; exact ih (fun x hx => hT x (by simp [hx])) h
def dynA (Tb : FT) (fv : AV) (args : List AV) (A : AH) (k : AV → AH → Bool) : Bool := fv.on_f (fun f xs ys => withF Tb f fun e => appF e.n e.g (appL xs (appL args ys)) A k) false
theorem dynA_ok {Tb : FT} (hT : TOK P Tb) {fv : AV} {wf : Value} {args : List AV} {ws : List Value} {k : AV → AH → Bool} {E : List PanicEntry → Heap → Prop} (h : Rel σ F φ A H) (hf : VR σ φ fv wf) (ha : VRl σ φ args ws) (hk : dynA Tb fv args A k = true) :
    callV P wf ws H (RK σ F φ k) E := by
  unfold dynA at hk
  rcases AV.on_f_eq fv (fun f xs ys => withF Tb f fun e => appF e.n e.g (appL xs (appL args ys)) A k) false with ⟨f, xs, ys, rfl, e⟩ | e
  · rw [e] at hk
    obtain ⟨e, he, hk⟩ := withF_ok hT hk
    simp only [VR] at hf
    obtain ⟨xs', ys', rfl, h1, h2⟩ := hf
    rw [appL_eq, appL_eq] at hk
    have := he σ F φ A H _ _ k h (h1.app (ha.app h2)) hk
    show CallF P f (xs'.toList ++ ws ++ ys'.toList) H _ E
    rw [List.append_assoc]
    exact this.to fun _ _ x => x
  · rw [e] at hk; cases hk
end
end Go.Run
