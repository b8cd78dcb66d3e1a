
/- Closed runs: slices made, and slices that grow. -/
import Derived.Test.YtndbdehpkiimjaaGreatRunG
namespace Go.Run
open Go.HL
set_option linter.unusedVariables false
variable {σ : Nat → Value} {F : Nat → Option Obj} {φ : Phi} {A : AH} {H : Heap} {P : Program} {V : HV}
noncomputable section

/-- Values stored in a row of a real block. -/
theorem store_row : ∀ (ws : List Value) (H : Heap) (r off j : Nat) (c : Array Value) (el : TypeId) (fr : Nat × Nat), (∀ w ∈ ws, oneC w = true) → H[r]? = some (.cells c el fr) → fr.1 = fr.2 → off + j + ws.length ≤ c.size →
    ∃ H' c', storeCellsH H ⟨r, off, none⟩ ws j = some H' ∧ H'[r]? = some (.cells c' el fr) ∧ c'.size = c.size ∧ (∀ k, c'[k]? = if off + j ≤ k ∧ k < off + j + ws.length then ws[k - (off + j)]? else c[k]?) ∧ (∀ r', r' ≠ r → H'[r']? = H[r']?) ∧ H'.size = H.size
  | [], H, r, off, j, c, el, fr, _, h, _, _ => ⟨H, c, rfl, h, rfl, fun k => by rw [if_neg (by simp)], fun _ _ => rfl, rfl⟩
  | w :: ws, H, r, off, j, c, el, fr, h1, h2, h3, h4 => by
    simp only [List.length_cons] at h4
    have g1 : (cellH H ⟨r, off + j, none⟩).isSome = true := by simp [cellH, h2]; omega
    have g2 : frozenH H ⟨r, off + j, none⟩ = false := by
      obtain ⟨lo, hi⟩ := fr
      simp only at h3
      subst h3
      simp only [frozenH, h2]
      simp; try omega
    obtain ⟨H', c', a1, a2, a3, a4, a5, a6⟩ := store_row ws (setH H ⟨r, off + j, none⟩ w) r off (j + 1) (c.setIfInBounds (off + j) w) el fr (fun x hx => h1 x (List.mem_cons_of_mem _ hx)) (setH_at h2) h3 (by simp; omega)
    refine ⟨H', c', ?_, a2, by simpa using a3, ?_, ?_, by rw [a6, setH_size]⟩
    · simp only [storeCellsH, addr_add]
      rw [if_pos ⟨h1 w (by simp), g1, g2⟩]
      exact a1
    · intro k
      rw [a4 k]
      by_cases e : k = off + j
      · subst e
        rw [if_neg (by omega), if_pos (by simp), Array.getElem?_setIfInBounds]
        simp
        omega
      · have e' : (c.setIfInBounds (off + j) w)[k]? = c[k]? := by rw [Array.getElem?_setIfInBounds, if_neg (fun x => e x.symm)]
        rw [e']
        by_cases g : off + (j + 1) ≤ k ∧ k < off + (j + 1) + ws.length
        · rw [if_pos g, if_pos (by simp; omega), show k - (off + j) = (k - (off + (j + 1))) + 1 by omega]
          simp
        · rw [if_neg g, if_neg (by simp; omega)]
    · intro r' hr
      rw [a5 r' hr, setH_ne hr]

/-! ### A block that goes on as another one -/
theorem Rel.move (h : Rel σ F φ A H) {j : Id} (hj : j.nat = A.nx.nat + 1) {d : Id} {blen : Nat} {t : CT} (hg : A.get d = .c false blen t) {e : Ent} (he : φ d = some e) {x n : Nat} {t' : CT} {H' : Heap} {c' : Array Value} {el : TypeId} {fr : Nat × Nat}
    (hH : H'[e.r]? = some (.cells c' el fr)) (hn : c'.size = e.n) (hfr : fr.1 = fr.2) (hne : ∀ r', r' ≠ e.r → H'[r']? = H[r']?) (hsz : H'.size = H.size) (hr : n ≤ t'.room) (hx : x + n ≤ e.n)
    (hv : ∀ o, o < n → ∃ w, c'[x + o]? = some w ∧ VR σ φ (t'.get o) w) :
    Rel σ F (φ.put A.nx ⟨e.r, x, e.n⟩) (((A.set d .no).set A.nx (.c false n t')).to j) H' := by
  have hb := (h.cells hg)
  obtain ⟨e', h1, h3, h4, h5, c, el', fr', h6, h7, h8, h9⟩ := hb
  rw [he] at h1
  simp only [Option.some.injEq] at h1
  subst h1
  have hdn : d ≠ A.nx := by
    intro x
    have := h.fresh
    rw [← x, he] at this
    cases this
  have other : ∀ i, i ≠ A.nx → i ≠ d → (((A.set d .no).set A.nx (.c false n t')).to j).get i = A.get i := by
    intro i h1 h2
    rw [AH.get_to, AH.get_set' _ h1, AH.get_set' _ h2]
  have atD : (((A.set d .no).set A.nx (.c false n t')).to j).get d = .no := by
    rw [AH.get_to, AH.get_set' _ hdn, AH.get_set]
  have atN : (((A.set d .no).set A.nx (.c false n t')).to j).get A.nx = .c false n t' := by
    rw [AH.get_to, AH.get_set]
  refine ⟨?_, ?_, ?_, ?_, fun r hr => by rw [hsz]; exact h.st r hr⟩
  · intro i y hy
    show i.nat < j.nat
    unfold Phi.put at hy
    split at hy
    · rename_i hi; subst hi; omega
    · have := h.dom i y hy; omega
  · intro i
    by_cases hi : i = A.nx
    · subst hi
      rw [atN]
      exact ⟨_, if_pos rfl, Or.inl (nfr h3), hr, hx, c', el, fr, hH, (fun _ => hn), fun _ => hfr, fun o ho => let ⟨w, a, b⟩ := hv o ho; ⟨w, a, VR.mono (h.le_put _) _ _ b⟩⟩
    · by_cases hd : i = d
      · subst hd; rw [atD]; trivial
      · rw [other i hi hd]
        have hl := h.liv i
        cases hbk : A.get i with
        | no => trivial
        | _ =>
          rw [hbk] at hl
          refine (hl.keep fun y hy _ => hne _ fun hrr => hd (h.inj i d y e (by rw [hbk]; simp) (by rw [hg]; simp) hy he hrr)).mono (h.le_put _)
  · intro i1 i2 x1 x2 hi1 hi2 hx1 hx2 hrr
    by_cases a1 : i1 = d
    · subst a1; exact absurd atD hi1
    by_cases a2 : i2 = d
    · subst a2; exact absurd atD hi2
    unfold Phi.put at hx1 hx2
    by_cases b1 : i1 = A.nx
    · by_cases b2 : i2 = A.nx
      · rw [b1, b2]
      · exfalso
        rw [if_pos b1] at hx1
        rw [if_neg b2] at hx2
        rw [other i2 b2 a2] at hi2
        simp only [Option.some.injEq] at hx1
        subst hx1
        exact a2 (h.inj i2 d x2 e hi2 (by rw [hg]; simp) hx2 he hrr.symm)
    · rw [if_neg b1] at hx1
      rw [other i1 b1 a1] at hi1
      by_cases b2 : i2 = A.nx
      · exfalso
        rw [if_pos b2] at hx2
        simp only [Option.some.injEq] at hx2
        subst hx2
        exact a1 (h.inj i1 d x1 e hi1 (by rw [hg]; simp) hx1 he hrr)
      · rw [if_neg b2] at hx2
        rw [other i2 b2 a2] at hi2
        exact h.inj i1 i2 x1 x2 hi1 hi2 hx1 hx2 hrr
  · intro r o hr'
    rw [hne r (by intro x; rw [x, nfr h3] at hr'; cases hr')]
    exact h.frm r o hr'
/-- A block forgotten. -/
theorem Rel.drop (h : Rel σ F φ A H) (d : Id) : Rel σ F φ (A.set d .no) H := by
  refine ⟨fun i e he => by rw [AH.nx_set]; exact h.dom i e he, fun i => ?_, fun i1 i2 x1 x2 h1 h2 => ?_, h.frm, h.st⟩
  · by_cases hi : i = d
    · subst hi; rw [AH.get_set]; trivial
    · rw [AH.get_set' _ hi]; exact h.liv i
  · have key : ∀ i, (A.set d .no).get i ≠ .no → A.get i ≠ .no := by
      intro i hn
      by_cases hi : i = d
      · subst hi; rw [AH.get_set] at hn; exact absurd rfl hn
      · rwa [AH.get_set' _ hi] at hn
    exact h.inj i1 i2 x1 x2 (key _ h1) (key _ h2)

/-! ### Trees with more room -/
def fit (t : CT) (n : Nat) : CT := @Bool.rec (fun _ => CT) ((fun t => @Bool.rec (fun _ => CT) ((fun t => @Bool.rec (fun _ => CT) t.up t (Nat.ble n t.room)) t.up) t (Nat.ble n t.room)) t.up) t (Nat.ble n t.room)
theorem CT.room_cases (t : CT) : t.room = 16 ∨ t.room = 256 ∨ t.room = 4096 ∨ t.room = 65536 := by cases t <;> simp [CT.room]
theorem CT.room_up' (t : CT) : t.room = 65536 ∨ t.up.room = 16 * t.room := by cases t <;> simp [CT.up, CT.room]
theorem fit_room (t : CT) (n : Nat) (h : n ≤ 65536) : n ≤ (fit t n).room := by
  unfold fit
  cases h1 : Nat.ble n t.room with
  | true => exact Nat.le_of_ble_eq_true h1
  | false =>
    simp only
    cases h2 : Nat.ble n t.up.room with
    | true => exact Nat.le_of_ble_eq_true h2
    | false =>
      simp only
      cases h3 : Nat.ble n t.up.up.room with
      | true => exact Nat.le_of_ble_eq_true h3
      | false =>
        simp only
        cases t <;> simpa [CT.up, CT.room] using h
theorem fit_get (t : CT) (n m : Nat) (hm : m < t.room) : (fit t n).get m = t.get m := by
  unfold fit
  have r1 := t.room_up
  have r2 := t.up.room_up
  cases Nat.ble n t.room with
  | true => rfl
  | false =>
    simp only
    cases Nat.ble n t.up.room with
    | true => exact CT.get_up hm
    | false =>
      simp only
      cases Nat.ble n t.up.up.room with
      | true => exact (CT.get_up (by omega)).trans (CT.get_up hm)
      | false => exact (CT.get_up (by omega)).trans ((CT.get_up (by omega)).trans (CT.get_up hm))

/-! ### What is appended -/
def srcK (A : AH) (x : AV) (z : Nat) (k : Nat → List AV → Bool) : Bool :=
  x.on_q (fun d o len _ _ _ => ifB (Nat.beq len 0) (k 0 []) ((A.get d).on_c (fun _ blen t => ifB (Nat.ble (Nat.add o (Nat.mul len z)) blen) (k len (rowA t o (Nat.mul len z))) false) false))
    (x.on_s (fun l => ifB (Nat.beq z 1) (k (lenL l) (l.map fun x => .z .u8 (Int.ofNat x))) false) (nilS x (k 0 [])))
theorem strBytes {l : List Nat} (h : ∀ x ∈ l, x < 256) : VRl σ φ (l.map fun x => .z .u8 (Int.ofNat x)) (((strOf l).extract 0 l.length).data.toList.map fun b => .int .u8 b.toNat) := by
  have e : (strOf l).extract 0 l.length = strOf l := by
    have e : ∀ l : List Nat, strOf l = bs (l.map UInt8.ofNat) := fun l => rfl
    rw [e, bs_extract]
    simp
    rw [List.take_of_length_le (by simp)]
  rw [e]
  refine VRl.of_get (by simp [strOf]) ?_
  intro j v w hv hw
  simp only [List.getElem?_map, strOf] at hv hw
  cases hl : l[j]? with
  | none => rw [hl] at hv; cases hv
  | some x =>
    rw [hl] at hv hw
    simp only [Option.map_some, Option.some.injEq] at hv hw
    subst hv hw
    simp only [VR]
    rw [UInt8.toNat_ofNat', Nat.mod_eq_of_lt (h x (List.mem_of_getElem? hl))]
    rfl
theorem srcK_sound {x : AV} {w : Value} {z : Nat} {k : Nat → List AV → Bool} (h : Rel σ F φ A H) (hx : VR σ φ x w) (hk : srcK A x z k = true) :
    ∃ n l ws, lenS w = some n ∧ srcCells H z n w = some ws ∧ VRl σ φ l ws ∧ l.length = n * z ∧ k n l = true := by
  unfold srcK at hk
  cases x with
  | q d o len cap z' ex =>
    simp only [VR] at hx
    obtain ⟨e, x, c, h1, rfl, h3, h4, h5, h6, h7⟩ := hx
    replace hk : ifB (Nat.beq len 0) (k 0 []) ((A.get d).on_c (fun _ blen t => ifB (Nat.ble (Nat.add o (Nat.mul len z)) blen) (k len (rowA t o (Nat.mul len z))) false) false) = true := hk
    cases hb : Nat.beq len 0 with
    | true =>
      rw [hb] at hk
      have := Nat.eq_of_beq_eq_true hb
      subst this
      exact ⟨0, [], [], rfl, by simp [srcCells, cellsH], by simp [VRl], by simp, hk⟩
    | false =>
      rw [hb] at hk
      have hlen := beq_f hb
      replace hk : (A.get d).on_c (fun _ blen t => ifB (Nat.ble (Nat.add o (Nat.mul len z)) blen) (k len (rowA t o (Nat.mul len z))) false) false = true := hk
      rcases AB.on_c_eq (A.get d) (fun _ blen t => ifB (Nat.ble (Nat.add o (Nat.mul len z)) blen) (k len (rowA t o (Nat.mul len z))) false) false with ⟨ro, blen, t, hg, e'⟩ | e'
      · rw [e'] at hk
        obtain ⟨g1, hk⟩ := ifB_and hk
        have g1 := Nat.le_of_ble_eq_true g1
        obtain ⟨ws, a1, a2⟩ := h.row hg h1 (len * z) o 0 (by simpa using g1)
        refine ⟨len, _, ws, rfl, ?_, a2, rowA_length _ _ _, hk⟩
        simp only [srcCells]
        rw [h6 (.inl (by omega))]
        exact a1
      · rw [e'] at hk; cases hk
  | s l =>
    obtain ⟨l', hl, rfl, hb, hk⟩ := on_s_sound (k := fun l => ifB (Nat.beq z 1) (k (lenL l) (l.map fun x => .z .u8 (Int.ofNat x))) false) hx hk
    simp only [AV.s.injEq] at hl
    subst hl
    obtain ⟨g1, hk⟩ := ifB_and hk
    have := Nat.eq_of_beq_eq_true g1
    subst this
    rw [lenL_eq] at hk
    exact ⟨l.length, _, _, by simp only [lenS]; rw [show (ByteArray.mk (l.map UInt8.ofNat).toArray) = strOf l from rfl, strOf_size], rfl, strBytes hb, by simp, hk⟩
  | nil g =>
    replace hk : ifB (Nat.beq g 1) (k 0 []) false = true := hk
    obtain ⟨g1, hk⟩ := ifB_and hk
    have := Nat.eq_of_beq_eq_true g1
    subst this
    simp only [VR, nilOf] at hx
    subst hx
    exact ⟨0, [], [], rfl, rfl, by simp [VRl], by simp, hk⟩
  | _ => cases hk
def onesA (l : List AV) : Bool := @List.rec AV (fun _ => Bool) true (fun v _ ih => ifB (oneA v) ih false) l
theorem onesA_sound : ∀ {l : List AV} {ws : List Value}, onesA l = true → VRl σ φ l ws → ∀ w ∈ ws, oneC w = true
  | [], ws, _, hv => by simp only [VRl] at hv; subst hv; simp
  | v :: l, ws, h, hv => by
    simp only [VRl] at hv
    obtain ⟨w, ws', rfl, h1, h2⟩ := hv
    obtain ⟨g1, g2⟩ := ifB_and (show ifB (oneA v) (onesA l) false = true from h)
    intro x hx
    rcases List.mem_cons.1 hx with rfl | hx
    · exact oneA_sound g1 h1
    · exact onesA_sound g2 h2 x hx

/-! ### append -/
def growA (A : AH) (l : List AV) (n : Nat) (z : Nat) (k : AV → AH → Bool) : Bool := ifB (Nat.ble (lenL l) 65536) (newL A (lenL l) (ctL l) fun i A => k (.q i 0 n n z false) A) false
def appC (A : AH) (q : AV) (n : Nat) (l : List AV) (z : Nat) (k : AV → AH → Bool) : Bool :=
  q.on_q (fun d o len cap z' ex => ifB (Nat.beq z z') (frc (Nat.add len n) fun need => ifB (Nat.ble need cap)
      (stN A (.p d (Nat.add o (Nat.mul len z))) l fun A => k (.q d o need cap z ex) A)
      (ifB (Nat.ble need 60000) (ifB ex (srcK A q z fun _ old => growA A (appL old l) need z k)
        ((A.get d).on_c (fun ro blen t => ifB ro false (ifB (onesA l) (frc (Nat.mul need z) fun tot => ifB (Nat.ble tot 65536) (ifB (Nat.ble (Nat.add o (Nat.mul len z)) blen)
          (newB (A.set d .no) (.c false tot (@Bool.rec (fun _ => CT) (ctL (appL (rowA t o (Nat.mul len z)) l)) (setL l (Nat.mul len z) (fit t tot)) (Nat.beq o 0))) fun i A => k (.q i 0 need need z false) A) false) false) false)) false)) false)) false)
    (nilS q (ifB (Nat.beq n 0) (k (.nil 1) A) (ifB (Nat.ble n 60000) (growA A l n z k) false)))
def appA (A : AH) (q x : AV) (z : Nat) (k : AV → AH → Bool) : Bool := srcK A x z fun n l => appC A q n l z k
theorem growBy_le (n : Nat) : ∀ (r c : Nat), c ≤ n + (n + 768) / 4 → Builtin.growBy n r c ≤ n + (n + 768) / 4
  | 0, c, h => h
  | r + 1, c, h => by
    unfold Builtin.growBy
    split
    · exact h
    · refine growBy_le n r _ ?_
      omega
theorem nextcap_le {need cap : Nat} (h : cap < need) : Builtin.nextslicecap need cap ≤ 2 * need + 768 := by
  unfold Builtin.nextslicecap
  split
  · omega
  · split
    · omega
    · have := growBy_le need 4 cap (by omega); omega
theorem zeroCells_size (z : Array Value) (n : Nat) : (Builtin.zeroCells z n).size = n * z.size := by simp [Builtin.zeroCells]
/-- The new block of an append: what was there, what came to it, and more. -/
theorem grow_ok {l : List AV} {n z : Nat} {k : AV → AH → Bool} {ws rest : List Value} {el : TypeId} {c : Nat} (h : Rel σ F φ A H) (hv : VRl σ φ l ws) (hl : l.length = n * z) (hc : n ≤ c) (hr : c * z = ws.length + rest.length) (hn : n < 9223372036854775808) (hk : growA A l n z k = true) :
    ∃ v A' φ', φ.le φ' ∧ Rel σ F φ' A' (H.push (.cells (ws.toArray ++ rest.toArray) el)) ∧ VR σ φ' v (.slice (some ⟨H.size, 0, none⟩) n c) ∧ k v A' = true := by
  obtain ⟨h1, hk⟩ := ifB_and hk
  have h1 := Nat.le_of_ble_eq_true h1
  rw [lenL_eq] at h1 hk
  obtain ⟨g1, g2, g3⟩ := ctL_cells (cs := ws.toArray) h1 (by simpa using hv)
  have hlen := hv.length
  obtain ⟨i, A', φ', a1, a2, a3, a4⟩ := newL_ok (cs := ws.toArray ++ rest.toArray) (el := el) h g1 (by simp; omega) (fun o ho => by
    obtain ⟨w, b1, b2⟩ := g3 o ho
    refine ⟨w, ?_, b2⟩
    rw [Array.getElem?_append_left (by simp; omega)]
    exact b1) hk
  refine ⟨.q i 0 n n z false, A', φ', a1, a2, ?_, a4⟩
  simp only [VR]
  refine ⟨_, 0, c, a3, rfl, ⟨Nat.le_refl _, hn⟩, hc, ?_, fun _ => by simp, fun hh => by cases hh⟩
  simp
  omega
end
end Go.Run
