
/- Closed runs: what is read, written and made new in an abstract heap. -/
import Derived.Test.YtndbdehpkiimjaaGreatRunB
namespace Go.Run
set_option linter.unusedSimpArgs false
set_option linter.unusedVariables false
open Go.HL
variable {σ : Nat → Value} {F : Nat → Option Obj} {φ : Phi} {A : AH} {H : Heap}

theorem BR.mono {φ φ' : Phi} (h : φ.le φ') {b : Nat → Option Obj} {H : Heap} {i : Id} {B : AB} (hB : BR σ φ b H i B) : BR σ φ' b H i B := by
  cases B with
  | no => trivial
  | c ro len t =>
    obtain ⟨e, h1, h3, h4, h5, c, el, fr, h6, h7, h8, h9⟩ := hB
    exact ⟨e, h _ _ h1, h3, h4, h5, c, el, fr, h6, h7, h8, fun o ho => let ⟨w, a, b⟩ := h9 o ho; ⟨w, a, VR.mono h _ _ b⟩⟩
  | mp g n m =>
    obtain ⟨e, h1, h2, es, clk, h3, h4⟩ := hB
    exact ⟨e, h _ _ h1, h2, es, clk, h3, ⟨h4.size, h4.nodup, fun k w x hk hx => let ⟨e, a, b, c⟩ := h4.real k w x hk hx; ⟨e, a, b, VR.mono h _ _ c⟩, h4.all, h4.vk⟩⟩
/-- A block of the heap as it was, in a heap that says the same of its real block. -/
theorem BR.keep {b : Nat → Option Obj} {H' : Heap} {i : Id} {B : AB} (hB : BR σ φ b H i B) (h : ∀ e, φ i = some e → e.r < H.size → H'[e.r]? = H[e.r]?) : BR σ φ b H' i B := by
  cases B with
  | no => trivial
  | c ro len t =>
    obtain ⟨e, h1, h3, h4, h5, c, el, fr, h6, h7⟩ := hB
    exact ⟨e, h1, h3, h4, h5, c, el, fr, by rw [h e h1 (Array.getElem?_eq_some_iff.1 h6).1]; exact h6, h7⟩
  | mp g n m =>
    obtain ⟨e, h1, h2, es, clk, h3, h4⟩ := hB
    exact ⟨e, h1, h2, es, clk, by rw [h e h1 (Array.getElem?_eq_some_iff.1 h3).1]; exact h3, h4⟩

/-! ### New blocks -/
noncomputable def newB (A : AH) (B : AB) (k : Id → AH → Bool) : Bool := A.nx.next (fun j => k A.nx ((A.set A.nx B).to j)) false
def Phi.put (φ : Phi) (i : Id) (e : Ent) : Phi := fun j => if j = i then some e else φ j
theorem Rel.fresh (h : Rel σ F φ A H) : φ A.nx = none := by
  cases e : φ A.nx with
  | none => rfl
  | some x => exact absurd (h.dom _ _ e) (Nat.lt_irrefl _)
theorem Rel.free (h : Rel σ F φ A H) : F H.size = none := by
  cases e : F H.size with
  | none => rfl
  | some o => have := h.frm _ _ e; simp at this
theorem Rel.le_put (h : Rel σ F φ A H) (e : Ent) : φ.le (φ.put A.nx e) := by
  intro i x hx
  unfold Phi.put
  split
  · rename_i hi; subst hi; rw [h.fresh] at hx; cases hx
  · exact hx
theorem Rel.lt_of (h : Rel σ F φ A H) {i : Id} (hi : A.get i ≠ .no) : ∃ e, φ i = some e ∧ e.r < H.size := by
  have hl := h.liv i
  generalize A.get i = B at hi hl
  cases B with
  | no => exact absurd rfl hi
  | c ro len t => obtain ⟨e, h1, _, _, _, c, el, fr, h6, _⟩ := hl; exact ⟨e, h1, (Array.getElem?_eq_some_iff.1 h6).1⟩
  | mp g n m => obtain ⟨e, h1, _, es, clk, h3, _⟩ := hl; exact ⟨e, h1, (Array.getElem?_eq_some_iff.1 h3).1⟩
/-- A block behind all others. -/
theorem Rel.new (h : Rel σ F φ A H) {j : Id} (hj : j.nat = A.nx.nat + 1) {B : AB} {o : Obj} {e : Ent} (he : e.r = H.size) (hB : BR σ (φ.put A.nx e) F (H.push o) A.nx B) :
    Rel σ F (φ.put A.nx e) ((A.set A.nx B).to j) (H.push o) := by
  refine ⟨?_, ?_, ?_, ?_, fun r hr => by have := h.st r hr; rw [Array.size_push]; omega⟩
  · intro i x hx
    show i.nat < j.nat
    unfold Phi.put at hx
    split at hx
    · rename_i hi; subst hi; omega
    · have := h.dom i x hx; omega
  · intro i
    rw [AH.get_to]
    by_cases hi : i = A.nx
    · subst hi; rw [AH.get_set]; exact hB
    · rw [AH.get_set' _ hi]
      refine ((h.liv i).mono (h.le_put e)).keep fun x hx hlt => ?_
      rw [Array.getElem?_push_lt hlt, Array.getElem?_eq_getElem hlt]
  · intro i i' x x' hi hi' hx hx' hr
    rw [AH.get_to] at hi hi'
    unfold Phi.put at hx hx'
    by_cases a : i = A.nx
    · by_cases a' : i' = A.nx
      · rw [a, a']
      · exfalso
        rw [if_pos a] at hx
        rw [if_neg a'] at hx'
        rw [AH.get_set' _ a'] at hi'
        obtain ⟨y, hy, hlt⟩ := h.lt_of hi'
        rw [hx'] at hy
        simp only [Option.some.injEq] at hx hy
        subst hx hy
        omega
    · by_cases a' : i' = A.nx
      · exfalso
        rw [if_neg a] at hx
        rw [if_pos a'] at hx'
        rw [AH.get_set' _ a] at hi
        obtain ⟨y, hy, hlt⟩ := h.lt_of hi
        rw [hx] at hy
        simp only [Option.some.injEq] at hx' hy
        subst hx' hy
        omega
      · rw [if_neg a] at hx
        rw [if_neg a'] at hx'
        rw [AH.get_set' _ a] at hi
        rw [AH.get_set' _ a'] at hi'
        exact h.inj i i' x x' hi hi' hx hx' hr
  · intro r o hr
    have h1 := h.frm r o hr
    have h2 := (Array.getElem?_eq_some_iff.1 h1).1
    rw [Array.getElem?_push_lt h2, ← h1, Array.getElem?_eq_getElem h2]
theorem newB_sound {B : AB} {k : Id → AH → Bool} (hk : newB A B k = true) : ∃ j, j.nat = A.nx.nat + 1 ∧ k A.nx ((A.set A.nx B).to j) = true := by
  unfold newB at hk
  rcases Id.next_eq A.nx (fun j => k A.nx ((A.set A.nx B).to j)) false with e | ⟨j, hj, e⟩
  · rw [e] at hk; cases hk
  · rw [e] at hk; exact ⟨j, hj, hk⟩
/-- New cells. -/
theorem Rel.newCells (h : Rel σ F φ A H) {j : Id} (hj : j.nat = A.nx.nat + 1) {len : Nat} {t : CT} {cs : Array Value} {el : TypeId} (hr : len ≤ t.room) (hn : len ≤ cs.size)
    (hv : ∀ o, o < len → ∃ w, cs[o]? = some w ∧ VR σ φ (t.get o) w) :
    Rel σ F (φ.put A.nx ⟨H.size, 0, cs.size⟩) ((A.set A.nx (.c false len t)).to j) (H.push (.cells cs el)) := by
  refine h.new hj rfl ?_
  refine ⟨_, if_pos rfl, Or.inl h.free, hr, by simpa using hn, cs, el, (0, 0), by simp, (fun _ => rfl), fun _ => rfl, fun o ho => ?_⟩
  obtain ⟨w, h1, h2⟩ := hv o ho
  exact ⟨w, by simpa using h1, VR.mono (h.le_put _) _ _ h2⟩

/-! ### Reading -/
theorem Rel.cells (h : Rel σ F φ A H) {i : Id} {ro : Bool} {len : Nat} {t : CT} (hg : A.get i = .c ro len t) : ∃ e, φ i = some e ∧ (F e.r = none ∨ ro = true ∧ stat σ e.r) ∧ len ≤ t.room ∧ e.s + len ≤ e.n ∧
    ∃ c el fr, H[e.r]? = some (.cells c el fr) ∧ (ro = false → c.size = e.n) ∧ (ro = false → fr.1 = fr.2) ∧ ∀ o, o < len → ∃ w, c[e.s + o]? = some w ∧ VR σ φ (t.get o) w := by
  have hl := h.liv i
  rw [hg] at hl
  exact hl
theorem Rel.cell (h : Rel σ F φ A H) {i : Id} {ro : Bool} {len o : Nat} {t : CT} (hg : A.get i = .c ro len t) (ho : o < len) :
    ∃ e w, φ i = some e ∧ cellH H ⟨e.r, e.s + o, none⟩ = some w ∧ VR σ φ (t.get o) w := by
  obtain ⟨e, h1, _, _, _, c, el, fr, h6, _, _, h9⟩ := h.cells hg
  obtain ⟨w, h10, h11⟩ := h9 o ho
  exact ⟨e, w, h1, by simp [cellH, h6, h10], h11⟩
/-- The value in one cell. -/
noncomputable def ldC (k : AV → Bool) (o : Nat) (ro : Bool) (len : Nat) (t : CT) : Bool := @Bool.rec (fun _ => Bool) false (k (t.get o)) (Nat.blt o len)
noncomputable def ldP (A : AH) (k : AV → Bool) (i : Id) (o : Nat) : Bool := (A.get i).on_c (ldC k o) false
noncomputable def ld (A : AH) (p : AV) (k : AV → Bool) : Bool := p.on_p (ldP A k) false
theorem blt_t {o n : Nat} (h : Nat.blt o n = true) : o < n := by
  have := Nat.le_of_ble_eq_true h; omega
theorem bool_t {c : Bool} {x : Bool} (h : @Bool.rec (fun _ => Bool) false x c = true) : c = true ∧ x = true := by cases c <;> simp_all
theorem ld_sound {p : AV} {w : Value} {k : AV → Bool} (h : Rel σ F φ A H) (hp : VR σ φ p w) (hk : ld A p k = true) : ∃ a v r, w = .pointer (some a) ∧ a.spot = none ∧ cellH H a = some r ∧ VR σ φ v r ∧ k v = true := by
  change p.on_p (fun i o => (A.get i).on_c (fun _ len t => @Bool.rec (fun _ => Bool) false (k (t.get o)) (Nat.blt o len)) false) false = true at hk
  rcases AV.on_p_eq p (fun i o => (A.get i).on_c (fun _ len t => @Bool.rec (fun _ => Bool) false (k (t.get o)) (Nat.blt o len)) false) false with ⟨i, o, rfl, e⟩ | e
  · rw [e] at hk
    rcases AB.on_c_eq (A.get i) (fun _ len t => @Bool.rec (fun _ => Bool) false (k (t.get o)) (Nat.blt o len)) false with ⟨ro, len, t, hg, e'⟩ | e'
    · rw [e'] at hk
      obtain ⟨h1, h2⟩ := bool_t hk
      obtain ⟨e, r, h3, h4, h5⟩ := h.cell hg (blt_t h1)
      simp only [VR] at hp
      obtain ⟨e'', h6, rfl⟩ := hp
      rw [h3] at h6
      simp only [Option.some.injEq] at h6
      subst h6
      exact ⟨_, _, r, rfl, rfl, h4, h5, h2⟩
    · rw [e'] at hk; cases hk
  · rw [e] at hk; cases hk
/-- The values of n cells in a row. -/
noncomputable def rowA (t : CT) (o n : Nat) : List AV := @Nat.rec (fun _ => Nat → List AV) (fun _ => []) (fun _ ih o => t.get o :: ih (Nat.succ o)) n o
theorem rowA_length (t : CT) : ∀ (n o : Nat), (rowA t o n).length = n
  | 0, _ => rfl
  | n + 1, o => by show (rowA t (o + 1) n).length + 1 = _; rw [rowA_length t n]
theorem rowA_get (t : CT) : ∀ (n o j : Nat), j < n → (rowA t o n)[j]? = some (t.get (o + j))
  | 0, _, j, h => by omega
  | n + 1, o, 0, _ => rfl
  | n + 1, o, j + 1, h => by
    show (rowA t (o + 1) n)[j]? = _
    rw [rowA_get t n (o + 1) j (by omega)]
    congr 2; omega
theorem addr_add (b o n : Nat) : (⟨b, o, none⟩ : Addr).add n = ⟨b, o + n, none⟩ := by unfold Addr.add; split <;> simp_all
theorem Rel.row (h : Rel σ F φ A H) {i : Id} {ro : Bool} {len : Nat} {t : CT} (hg : A.get i = .c ro len t) {e : Ent} (he : φ i = some e) : ∀ (n o j : Nat), o + j + n ≤ len →
    ∃ ws, cellsH (cellH H) ⟨e.r, e.s + o, none⟩ j n = some ws ∧ VRl σ φ (rowA t (o + j) n) ws
  | 0, o, j, _ => ⟨[], rfl, by simp [rowA, VRl]⟩
  | n + 1, o, j, hl => by
    obtain ⟨ws, h1, h2⟩ := h.row hg he n o (j + 1) (by omega)
    obtain ⟨e', w, h3, h4, h5⟩ := h.cell (o := o + j) hg (by omega)
    rw [he] at h3
    simp only [Option.some.injEq] at h3
    subst h3
    refine ⟨w :: ws, ?_, ?_⟩
    · simp only [cellsH, addr_add, h1]
      rw [show e.s + o + j = e.s + (o + j) by omega, h4]
      rfl
    · show VRl σ φ (t.get (o + j) :: rowA t (o + j + 1) n) (w :: ws)
      simp only [VRl]
      exact ⟨w, ws, rfl, h5, by rw [show o + j + 1 = o + (j + 1) by omega]; exact h2⟩
noncomputable def ldNC (n : Nat) (k : List AV → Bool) (o : Nat) (ro : Bool) (len : Nat) (t : CT) : Bool := @Bool.rec (fun _ => Bool) false (k (rowA t o n)) (Nat.ble (Nat.add o n) len)
noncomputable def ldNP (A : AH) (n : Nat) (k : List AV → Bool) (i : Id) (o : Nat) : Bool := (A.get i).on_c (ldNC n k o) false
noncomputable def ldN (A : AH) (p : AV) (n : Nat) (k : List AV → Bool) : Bool := p.on_p (ldNP A n k) false
theorem ldN_sound {p : AV} {w : Value} {n : Nat} {k : List AV → Bool} (h : Rel σ F φ A H) (hp : VR σ φ p w) (hk : ldN A p n k = true) :
    ∃ a l ws, w = .pointer (some a) ∧ a.spot = none ∧ cellsH (cellH H) a 0 n = some ws ∧ l.length = n ∧ VRl σ φ l ws ∧ k l = true := by
  change p.on_p (fun i o => (A.get i).on_c (fun _ len t => @Bool.rec (fun _ => Bool) false (k (rowA t o n)) (Nat.ble (Nat.add o n) len)) false) false = true at hk
  rcases AV.on_p_eq p (fun i o => (A.get i).on_c (fun _ len t => @Bool.rec (fun _ => Bool) false (k (rowA t o n)) (Nat.ble (Nat.add o n) len)) false) false with ⟨i, o, rfl, e⟩ | e
  · rw [e] at hk
    rcases AB.on_c_eq (A.get i) (fun _ len t => @Bool.rec (fun _ => Bool) false (k (rowA t o n)) (Nat.ble (Nat.add o n) len)) false with ⟨ro, len, t, hg, e'⟩ | e'
    · rw [e'] at hk
      obtain ⟨h1, h2⟩ := bool_t hk
      have h1 := Nat.le_of_ble_eq_true h1
      simp only [VR] at hp
      obtain ⟨e, h6, rfl⟩ := hp
      obtain ⟨ws, h3, h4⟩ := h.row hg h6 n o 0 h1
      exact ⟨_, _, ws, rfl, rfl, h3, rowA_length _ _ _, h4, h2⟩
    · rw [e'] at hk; cases hk
  · rw [e] at hk; cases hk

/-! ### Writing -/
/-- A value that one cell may hold. -/
noncomputable def oneA (v : AV) : Bool := @AV.rec (fun _ => Bool) (fun _ => PUnit) false (fun _ => true) (fun _ => true) (fun _ _ => true) (fun _ => true) (fun _ _ => true) (fun _ _ _ _ _ _ => true) (fun _ => true) (fun _ => true) (fun _ _ _ _ _ => true)
  (fun _ _ _ => true) (fun _ _ => false) (fun _ _ => false) (fun _ => false) .unit (fun _ _ _ _ => .unit) v
theorem oneA_sound {v : AV} {w : Value} (h : oneA v = true) (hv : VR σ φ v w) : oneC w = true := by
  cases v <;> first | (cases h; done) | simp only [VR] at hv
  case b => subst hv; rfl
  case n => obtain ⟨rfl, _⟩ := hv; rfl
  case z => subst hv; rfl
  case s => obtain ⟨_, rfl, _⟩ := hv; rfl
  case p => obtain ⟨_, _, rfl⟩ := hv; rfl
  case q => obtain ⟨_, _, _, _, rfl, _⟩ := hv; rfl
  case m => obtain ⟨_, _, rfl⟩ := hv; rfl
  case nil g => subst hv; unfold nilOf; split <;> rfl
  case f => obtain ⟨_, _, rfl, _⟩ := hv; rfl
  case i => obtain ⟨_, rfl, _⟩ := hv; rfl
theorem setH_at {H : Heap} {r o : Nat} {c : Array Value} {el : TypeId} {fr : Nat × Nat} {w : Value} (h : H[r]? = some (.cells c el fr)) : (setH H ⟨r, o, none⟩ w)[r]? = some (.cells (c.setIfInBounds o w) el fr) := by
  unfold setH
  rw [Array.getElem?_modify]
  simp [h]
theorem setH_ne {H : Heap} {a : Addr} {r : Nat} {w : Value} (h : r ≠ a.block) : (setH H a w)[r]? = H[r]? := by
  unfold setH
  rw [Array.getElem?_modify, if_neg (fun x => h x.symm)]
theorem setH_size {H : Heap} {a : Addr} {w : Value} : (setH H a w).size = H.size := by simp [setH]
theorem Rel.store (h : Rel σ F φ A H) {i : Id} {len o : Nat} {t : CT} (hg : A.get i = .c false len t) (ho : o < len) {v : AV} {w : Value} (hv : VR σ φ v w) {e : Ent} (he : φ i = some e) :
    (cellH H ⟨e.r, e.s + o, none⟩).isSome = true ∧ frozenH H ⟨e.r, e.s + o, none⟩ = false ∧ Rel σ F φ (A.set i (.c false len (t.set o v))) (setH H ⟨e.r, e.s + o, none⟩ w) := by
  obtain ⟨e', h1, h3, h4, h5, c, el, fr, h6, h7, h8, h9⟩ := h.cells hg
  rw [he] at h1
  simp only [Option.some.injEq] at h1
  subst h1
  obtain ⟨w0, h10, _⟩ := h9 o ho
  refine ⟨by simp [cellH, h6, h10], ?_, ?_⟩
  · obtain ⟨lo, hi⟩ := fr
    have := h8 rfl
    simp only at this
    subst this
    simp only [frozenH, h6]
    simp; try omega
  refine ⟨?_, ?_, ?_, ?_, fun r hr => by rw [setH_size]; exact h.st r hr⟩
  · intro i' x hx; rw [AH.nx_set]; exact h.dom i' x hx
  · intro i'
    by_cases hi : i' = i
    · subst hi
      rw [AH.get_set]
      refine ⟨e, he, h3, by rw [CT.room_set]; exact h4, h5, c.setIfInBounds (e.s + o) w, el, fr, setH_at h6, (fun _ => by simpa using h7 rfl), h8, fun o' ho' => ?_⟩
      by_cases hoo : o' = o
      · subst hoo
        refine ⟨w, ?_, by rw [CT.get_set]; exact hv⟩
        rw [Array.getElem?_setIfInBounds]
        have := (Array.getElem?_eq_some_iff.1 h10).1
        simp [this]
      · obtain ⟨w', h11, h12⟩ := h9 o' ho'
        refine ⟨w', ?_, by rw [CT.get_set' (by omega) (by omega) hoo]; exact h12⟩
        rw [Array.getElem?_setIfInBounds, if_neg (by omega)]
        exact h11
    · rw [AH.get_set' _ hi]
      have hl := h.liv i'
      cases hb : A.get i' with
      | no => trivial
      | _ =>
        rw [hb] at hl
        refine hl.keep fun x hx _ => setH_ne fun hr => hi (h.inj i' i x e (by rw [hb]; simp) (by rw [hg]; simp) hx he hr)
  · intro i1 i2 x1 x2 hi1 hi2 hx1 hx2 hr
    have key : ∀ i', (A.set i (.c false len (t.set o v))).get i' ≠ .no → A.get i' ≠ .no := by
      intro i' hn
      by_cases hi : i' = i
      · subst hi; rw [hg]; simp
      · rwa [AH.get_set' _ hi] at hn
    exact h.inj i1 i2 x1 x2 (key _ hi1) (key _ hi2) hx1 hx2 hr
  · intro r o' hr
    rw [setH_ne (by show r ≠ e.r; intro x; rw [x, nfr h3] at hr; cases hr)]
    exact h.frm r o' hr
/-- A value into one cell. -/
noncomputable def stKk (A : AH) (v : AV) (k : AH → Bool) (i : Id) (o len : Nat) (t : CT) : Bool := k (A.set i (.c false len (t.set o v)))
noncomputable def stCc (A : AH) (v : AV) (k : AH → Bool) (i : Id) (o : Nat) (ro : Bool) (len : Nat) (t : CT) : Bool := @Bool.rec (fun _ => Bool) (@Bool.rec (fun _ => Bool) false (@Bool.rec (fun _ => Bool) false (stKk A v k i o len t) (Nat.blt o len)) (oneA v)) false ro
noncomputable def stPp (A : AH) (v : AV) (k : AH → Bool) (i : Id) (o : Nat) : Bool := (A.get i).on_c (stCc A v k i o) false
noncomputable def st (A : AH) (p v : AV) (k : AH → Bool) : Bool := p.on_p (stPp A v k) false
theorem bool_f {c : Bool} {x : Bool} (h : @Bool.rec (fun _ => Bool) x false c = true) : c = false ∧ x = true := by cases c <;> simp_all
theorem st_sound {p v : AV} {w x : Value} {k : AH → Bool} (h : Rel σ F φ A H) (hp : VR σ φ p w) (hv : VR σ φ v x) (hk : st A p v k = true) :
    ∃ a A', w = .pointer (some a) ∧ oneC x = true ∧ (cellH H a).isSome = true ∧ frozenH H a = false ∧ Rel σ F φ A' (setH H a x) ∧ k A' = true := by
  change p.on_p (fun i o => (A.get i).on_c (fun ro len t => @Bool.rec (fun _ => Bool) (@Bool.rec (fun _ => Bool) false (@Bool.rec (fun _ => Bool) false (k (A.set i (.c false len (t.set o v)))) (Nat.blt o len)) (oneA v)) false ro) false) false = true at hk
  rcases AV.on_p_eq p (fun i o => (A.get i).on_c (fun ro len t => @Bool.rec (fun _ => Bool) (@Bool.rec (fun _ => Bool) false (@Bool.rec (fun _ => Bool) false (k (A.set i (.c false len (t.set o v)))) (Nat.blt o len)) (oneA v)) false ro) false) false with ⟨i, o, rfl, e⟩ | e
  · rw [e] at hk
    rcases AB.on_c_eq (A.get i) (fun ro len t => @Bool.rec (fun _ => Bool) (@Bool.rec (fun _ => Bool) false (@Bool.rec (fun _ => Bool) false (k (A.set i (.c false len (t.set o v)))) (Nat.blt o len)) (oneA v)) false ro) false with ⟨ro, len, t, hg, e'⟩ | e'
    · rw [e'] at hk
      obtain ⟨rfl, hk⟩ := bool_f hk
      obtain ⟨h1, hk⟩ := bool_t hk
      obtain ⟨h2, hk⟩ := bool_t hk
      simp only [VR] at hp
      obtain ⟨e, he, rfl⟩ := hp
      obtain ⟨h3, h4, h5⟩ := h.store hg (blt_t h2) hv he
      exact ⟨_, _, rfl, oneA_sound h1 hv, h3, h4, h5, hk⟩
    · rw [e'] at hk; cases hk
  · rw [e] at hk; cases hk
/-- Values into cells in a row. -/
noncomputable def stL (i : Id) (l : List AV) : Nat → AH → (AH → Bool) → Bool := @List.rec AV (fun _ => Nat → AH → (AH → Bool) → Bool) (fun _ A k => k A) (fun v _ ih o A k => st A (.p i o) v fun A => ih (Nat.succ o) A k) l
theorem stL_sound {i : Id} {e : Ent} (he : φ i = some e) : ∀ (l : List AV) (ws : List Value) (o j : Nat) (A : AH) (H : Heap) (k : AH → Bool), Rel σ F φ A H → VRl σ φ l ws → stL i l (o + j) A k = true →
    ∃ A' H', storeCellsH H ⟨e.r, e.s + o, none⟩ ws j = some H' ∧ Rel σ F φ A' H' ∧ k A' = true
  | [], ws, o, j, A, H, k, h, hv, hk => by
    simp only [VRl] at hv
    subst hv
    exact ⟨A, H, rfl, h, hk⟩
  | v :: l, ws, o, j, A, H, k, h, hv, hk => by
    simp only [VRl] at hv
    obtain ⟨w, ws', rfl, h1, h2⟩ := hv
    obtain ⟨a, A', h3, h4, h5, h6, h7, h8⟩ := st_sound (p := .p i (o + j)) (w := .pointer (some ⟨e.r, e.s + (o + j), none⟩)) (k := fun A => stL i l (Nat.succ (o + j)) A k) h (by simp only [VR]; exact ⟨e, he, rfl⟩) h1 hk
    simp only [Value.pointer.injEq, Option.some.injEq] at h3
    subst h3
    obtain ⟨A'', H'', h9, h10, h11⟩ := stL_sound he l ws' o (j + 1) A' _ k h7 h2 h8
    refine ⟨A'', H'', ?_, h10, h11⟩
    simp only [storeCellsH, addr_add]
    rw [show e.s + o + j = e.s + (o + j) by omega, if_pos ⟨h4, h5, h6⟩]
    exact h9
/-- The same with one change of the heap's tree. -/
noncomputable def setR (l : List AV) (n : Nat) (t : CT) : CT := @List.rec AV (fun _ => Nat → CT → CT) (fun _ t => t) (fun v _ ih n t => ih (Nat.succ n) (t.set n v)) l n t
noncomputable def onesR (l : List AV) : Bool := @List.rec AV (fun _ => Bool) true (fun v _ ih => @Bool.rec (fun _ => Bool) false ih (oneA v)) l
noncomputable def lenR (l : List AV) : Nat := @List.rec AV (fun _ => Nat) 0 (fun _ _ n => Nat.succ n) l
theorem lenR_eq : ∀ (l : List AV), lenR l = l.length
  | [] => rfl
  | _ :: l => by show Nat.succ (lenR l) = _; rw [lenR_eq l]; rfl
theorem stL_setR {i : Id} {len : Nat} {k : AH → Bool} : ∀ (v : AV) (l : List AV) (o : Nat) (A : AH) (t : CT), A.get i = .c false len t → o + (l.length + 1) ≤ len → onesR (v :: l) = true → stL i (v :: l) o A k = k (A.set i (.c false len (setR (v :: l) o t)))
  | v, l, o, A, t, hg, hlen, h1 => by
    have ⟨h2, h3⟩ : oneA v = true ∧ onesR l = true := bool_t (c := oneA v) h1
    have step : stL i (v :: l) o A k = stL i l (Nat.succ o) (A.set i (.c false len (t.set o v))) k := by
      show (A.get i).on_c (stCc A v (fun A => stL i l (Nat.succ o) A k) i o) false = _
      rw [hg]
      show @Bool.rec (fun _ => Bool) false (@Bool.rec (fun _ => Bool) false (stL i l (Nat.succ o) (A.set i (.c false len (t.set o v))) k) (Nat.blt o len)) (oneA v) = _
      have h4 : Nat.blt o len = true := Nat.ble_eq_true_of_le (by omega)
      rw [h2, h4]
    rw [step]
    cases l with
    | nil => rfl
    | cons v2 l =>
      rw [stL_setR v2 l (Nat.succ o) (A.set i (.c false len (t.set o v))) (t.set o v) (by rw [AH.get_set]) (by simp only [List.length_cons] at hlen; omega) h3, AH.set_set]
      rfl
noncomputable def stNC (A : AH) (l : List AV) (k : AH → Bool) (i : Id) (o : Nat) (ro : Bool) (len : Nat) (t : CT) : Bool :=
  @Bool.rec (fun _ => Bool) (@Bool.rec (fun _ => Bool) false (@Bool.rec (fun _ => Bool) false (k (A.set i (.c false len (setR l o t)))) (Nat.ble (Nat.add o (lenR l)) len)) (onesR l)) false ro
noncomputable def stNP (A : AH) (l : List AV) (k : AH → Bool) (i : Id) (o : Nat) : Bool := @List.rec AV (fun _ => Bool) (k A) (fun _ _ _ => (A.get i).on_c (stNC A l k i o) false) l
noncomputable def stN (A : AH) (p : AV) (l : List AV) (k : AH → Bool) : Bool := p.on_p (stNP A l k) false
theorem stNP_stL {l : List AV} {k : AH → Bool} {i : Id} {o : Nat} (h : stNP A l k i o = true) : stL i l o A k = true := by
  cases l with
  | nil => exact h
  | cons v l =>
    have h : (A.get i).on_c (stNC A (v :: l) k i o) false = true := h
    rcases AB.on_c_eq (A.get i) (stNC A (v :: l) k i o) false with ⟨ro, len, t, hg, e⟩ | e
    · rw [e] at h
      obtain ⟨rfl, h⟩ := bool_f h
      obtain ⟨h1, h⟩ := bool_t h
      obtain ⟨h2, h⟩ := bool_t h
      have h2 := Nat.le_of_ble_eq_true h2
      rw [lenR_eq] at h2
      rw [stL_setR v l o A t hg (by simpa using h2) h1]
      exact h
    · rw [e] at h; cases h
theorem stN_sound {p : AV} {l : List AV} {w : Value} {ws : List Value} {k : AH → Bool} (h : Rel σ F φ A H) (hp : VR σ φ p w) (hv : VRl σ φ l ws) (hk : stN A p l k = true) :
    ∃ a A' H', w = .pointer (some a) ∧ storeCellsH H a ws 0 = some H' ∧ Rel σ F φ A' H' ∧ k A' = true := by
  unfold stN at hk
  rcases AV.on_p_eq p (stNP A l k) false with ⟨i, o, rfl, e⟩ | e
  · rw [e] at hk
    simp only [VR] at hp
    obtain ⟨e, he, rfl⟩ := hp
    obtain ⟨A', H', h1, h2, h3⟩ := stL_sound he l ws o 0 A H k h hv (stNP_stL hk)
    exact ⟨_, A', H', rfl, h1, h2, h3⟩
  · rw [e] at hk; cases hk
end Go.Run
