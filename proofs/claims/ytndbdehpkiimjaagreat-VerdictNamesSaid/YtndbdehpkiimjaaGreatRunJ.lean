
/- Closed runs: slices made with a length, slices and structs put together. -/
import Derived.Test.YtndbdehpkiimjaaGreatRunI
namespace Go.Run
open Go.HL
variable {σ : Nat → Value} {F : Nat → Option Obj} {φ : Phi} {A : AH} {H : Heap} {P : Program} {V : HV}
noncomputable section
set_option linter.unusedVariables false

/-! ### Cells again and again -/
def repL (n : Nat) (l : List AV) : List AV := @Nat.rec (fun _ => List AV) [] (fun _ ih => appL l ih) n
theorem repL_len (l : List AV) : ∀ n, (repL n l).length = n * l.length
  | 0 => by show ([] : List AV).length = _; simp
  | n + 1 => by
    show (appL l (repL n l)).length = _
    rw [appL_eq, List.length_append, repL_len l n, Nat.add_mul]; omega
theorem repL_get (l : List AV) : ∀ (n j : Nat), j < n * l.length → (repL n l)[j]? = l[j % l.length]?
  | 0, j, h => by simp at h
  | n + 1, j, h => by
    show (appL l (repL n l))[j]? = _
    rw [appL_eq]
    by_cases hj : j < l.length
    · rw [List.getElem?_append_left hj, Nat.mod_eq_of_lt hj]
    · rw [List.getElem?_append_right (by omega), repL_get l n _ (by rw [Nat.add_mul] at h; omega), ← Nat.mod_eq_sub_mod (by omega)]
theorem mkCells_get (z : Array Value) (n j : Nat) (h : j < n) (hz : 0 < z.size) : (mkCells z n)[j]? = z[j % z.size]? := by
  unfold mkCells
  rw [Array.getElem?_map, Array.getElem?_range]
  rw [if_pos h]
  have hm := Nat.mod_lt j hz
  simp [hm]
theorem mkCells_size (z : Array Value) (n : Nat) : (mkCells z n).size = n := by simp [mkCells]
theorem repL_ok {l : List AV} {z : Array Value} {n : Nat} (h : VRl σ φ l z.toList) : VRl σ φ (repL n l) (mkCells z (n * z.size)).toList := by
  have hl := h.length
  simp only [Array.length_toList] at hl
  refine VRl.of_get (by have := mkCells_size z (n * z.size); rw [repL_len, hl]; simp only [Array.length_toList]; omega) ?_
  intro j v w hv hw
  rw [Array.getElem?_toList] at hw
  have hj : j < n * z.size := by
    have := (List.getElem?_eq_some_iff.1 hv).1
    rwa [repL_len, hl] at this
  have hz : 0 < z.size := by
    rcases Nat.eq_zero_or_pos z.size with e | e
    · rw [e] at hj; simp at hj
    · exact e
  rw [repL_get l n j (by rw [hl]; exact hj)] at hv
  rw [mkCells_get _ _ _ hj hz] at hw
  obtain ⟨w', h1, h2⟩ := h.get hv
  rw [hl, Array.getElem?_toList, hw] at h1
  simp only [Option.some.injEq] at h1
  subst h1
  exact h2
/-- The tree of n elements, all of them zero. -/
def zeroT' (n : Nat) (zero : List AV) : CT := @List.rec AV (fun _ => CT) (ctL []) (fun v r _ => @List.rec AV (fun _ => CT) (CT.fill n v) (fun _ _ _ => ctL (repL n zero)) r) zero
theorem zeroT'_ok {l : List AV} {z : Array Value} {n : Nat} (h : VRl σ φ l z.toList) (hn : n * l.length ≤ 65536) :
    n * l.length ≤ (zeroT' n l).room ∧ ∀ o, o < n * l.length → ∃ w, (mkCells z (n * z.size))[o]? = some w ∧ VR σ φ ((zeroT' n l).get o) w := by
  have hl := h.length
  simp only [Array.length_toList] at hl
  have hr := repL_ok (n := n) h
  have hlen := repL_len l n
  have gen : n * l.length ≤ (ctL (repL n l)).room ∧ ∀ o, o < n * l.length → ∃ w, (mkCells z (n * z.size))[o]? = some w ∧ VR σ φ ((ctL (repL n l)).get o) w := by
    obtain ⟨g1, g2, g3⟩ := ctL_cells (by rw [hlen]; exact hn) hr
    rw [hlen] at g1 g3
    exact ⟨g1, g3⟩
  match l, h, hl, hr, hlen, gen with
  | [], _, _, _, _, _ => simp
  | [v], h, hl, hr, hlen, _ =>
    show n * 1 ≤ (CT.fill n v).room ∧ ∀ o, o < n * 1 → ∃ w, (mkCells z (n * z.size))[o]? = some w ∧ VR σ φ ((CT.fill n v).get o) w
    refine ⟨by have := CT.room_fill n v (by simpa using hn); omega, fun o ho => ?_⟩
    rw [CT.get_fill]
    simp only [VRl] at h
    obtain ⟨w, ws, e, h1, rfl⟩ := h
    refine ⟨w, ?_, h1⟩
    simp only [List.length_cons, List.length_nil] at hl
    rw [← hl, mkCells_get _ _ _ (by omega) (by omega), ← hl, Nat.mod_one, ← Array.getElem?_toList, e]
    rfl
  | v :: v2 :: r, h, hl, hr, hlen, gen => exact gen

/-! ### makeSlice -/
def makA (A : AH) (i : TI) (l c : AV) (k : AV → AH → Bool) : Bool :=
  idx l fun l => idx c fun c => ifB (Nat.ble l c) (ifB (Nat.ble c 65536) (ifB (Nat.ble i.bytes 1048576) (frc (Nat.mul c i.size) fun n => ifB (Nat.ble n 65536) (newL A n (zeroT' c i.zero) fun j A => k (.q j 0 l c i.size true) A) false) false) false) false
theorem makA_ok {t e : Nat} {i : TI} {l c : AV} {wl wc : Value} {k : AV → AH → Bool} (h : Rel σ F φ A H) (ht : P.underlying t = some (.slice e)) (hi : TIok P e i) (hl : VR σ φ l wl) (hc : VR σ φ c wc) (hk : makA A i l c k = true) :
    ∃ r, makeV P H t wl wc = some r ∧ ∃ v A' φ', φ.le φ' ∧ Rel σ F φ' A' r.2 ∧ VR σ φ' v r.1 ∧ k v A' = true := by
  unfold makA at hk
  obtain ⟨g, n, rfl, hk⟩ := idx_sound hl hk
  obtain ⟨g', m, rfl, hk⟩ := idx_sound hc hk
  obtain ⟨h1, hk⟩ := ifB_and hk
  obtain ⟨h2, hk⟩ := ifB_and hk
  obtain ⟨h3, hk⟩ := ifB_and hk
  rw [frc_eq] at hk
  obtain ⟨h4, hk⟩ := ifB_and hk
  have h1 := Nat.le_of_ble_eq_true h1
  have h2 := Nat.le_of_ble_eq_true h2
  have h3 := Nat.le_of_ble_eq_true h3
  have h4 := Nat.le_of_ble_eq_true h4
  simp only [Nat.mul_eq] at hk h4
  obtain ⟨z, hz, hzs, hv⟩ := hi.zer
  obtain ⟨g1, g2⟩ := zeroT'_ok (n := m) (hv σ φ) (by rw [hi.len]; exact h4)
  rw [hi.len] at g1 g2
  rw [hzs] at g2
  obtain ⟨j, A', φ', a1, a2, a3, a4⟩ := newL_ok (cs := mkCells z.cells (m * i.size)) (el := e) h g1 (by rw [mkCells_size]; exact Nat.le_refl _) g2 hk
  refine ⟨(.slice (some ⟨H.size, 0, none⟩) n m, H.push (.cells (mkCells z.cells (m * i.size)) e)), ?_, _, A', φ', a1, a2, ?_, a4⟩
  · have hel : elemT P t = some e := by simp [elemT, ht]
    unfold makeV
    simp only [hel, hi.bytes, hi.size, hz, Option.bind_some, Int.toNat_natCast]
    rw [if_pos]
    refine ⟨by omega, by omega, by omega, ?_⟩
    have : i.bytes * m ≤ 1048576 * 65536 := Nat.mul_le_mul h3 h2
    have e1 : ((i.bytes : Nat) : Int) * (m : Int) = ((i.bytes * m : Nat) : Int) := by simp
    rw [e1]; omega
  · simp only [VR]
    refine ⟨_, 0, m, a3, rfl, ⟨h1, by omega⟩, Nat.le_refl _, ?_, fun _ => by simp, fun _ => rfl⟩
    rw [mkCells_size]; show 0 + m * i.size ≤ m * i.size ∧ (m ≠ 0 → 0 + m * i.size = m * i.size); omega

/-! ### buildSlice -/
def bslA (A : AH) (i : TI) (len : Nat) (parts : List (Nat × Nat × AV)) (k : AV → AH → Bool) : Bool :=
  ifB (Nat.ble len 65536) (ifB (Nat.ble (Nat.mul len i.size) 65536) (bld parts (repL len i.zero) fun l => newL A (lenL l) (ctL l) fun j A => k (.q j 0 len len i.size true) A) false) false
theorem fill_size {place : Nat → Option (Nat × Nat)} : ∀ (ps : List (Nat × Value)) (cs cs' : Array Value), Instr.fill place cs ps = some cs' → cs'.size = cs.size
  | [], cs, cs', h => by simp only [Instr.fill, Option.some.injEq] at h; rw [h]
  | ⟨q, v⟩ :: ps, cs, cs', h => by
    simp only [Instr.fill] at h
    cases hp : place q with
    | none => rw [hp] at h; cases h
    | some x =>
      obtain ⟨off, size⟩ := x
      rw [hp] at h
      simp only at h
      by_cases hc : (decide (v.cells.size ≠ size) || decide (off + v.cells.size > cs.size)) = true
      · rw [if_pos hc] at h; cases h
      · rw [if_neg hc] at h
        have := fill_size ps _ _ h
        rw [this]
        have key : ∀ (l : List (Value × Nat)) (c : Array Value), (l.foldl (fun cs (x : Value × Nat) => cs.setIfInBounds (off + x.2) x.1) c).size = c.size := by
          intro l
          induction l with
          | nil => intro c; rfl
          | cons x l ih => intro c; rw [List.foldl_cons, ih]; simp
        rw [← Array.foldl_toList]
        exact key _ _
theorem bslA_ok {t e len : Nat} {i : TI} {parts : List (Nat × Nat × AV)} {ps : List (Nat × Value)} {k : AV → AH → Bool} (h : Rel σ F φ A H) (ht : P.underlying t = some (.slice e)) (hi : TIok P e i) (hl : parts.length = ps.length)
    (hp : ∀ (j : Nat) p q, parts[j]? = some p → ps[j]? = some q → p.1 = q.1 * i.size ∧ p.2.1 = i.size ∧ VR σ φ p.2.2 q.2) (hk : bslA A i len parts k = true) :
    ∃ r, buildSliceV P H t len ps = some r ∧ ∃ v A' φ', φ.le φ' ∧ Rel σ F φ' A' r.2 ∧ VR σ φ' v r.1 ∧ k v A' = true := by
  obtain ⟨h0, hk⟩ := ifB_and hk
  have h0 := Nat.le_of_ble_eq_true h0
  obtain ⟨h4, hk⟩ := ifB_and hk
  have h4 := Nat.le_of_ble_eq_true h4
  simp only [Nat.mul_eq] at h4
  obtain ⟨z, hz, hzs, hv⟩ := hi.zer
  have hr := repL_ok (n := len) (hv σ φ)
  rw [hzs] at hr
  obtain ⟨cs, l, h5, h6, hk⟩ := bld_ok (place := fun q => some (q * i.size, i.size)) parts ps _ _ hl (fun j p q a b => by
    obtain ⟨c1, c2, c3⟩ := hp j p q a b
    exact ⟨by rw [c1, c2], c3⟩) hr hk
  have hsz : cs.size = len * i.size := by rw [fill_size _ _ _ h5, mkCells_size]
  have hll : l.length = len * i.size := by have := h6.length; simp only [Array.length_toList] at this; omega
  rw [lenL_eq] at hk
  obtain ⟨g1, g2, g3⟩ := ctL_cells (by rw [hll]; exact h4) h6
  obtain ⟨j, A', φ', a1, a2, a3, a4⟩ := newL_ok (cs := cs) (el := e) h g1 (by omega) g3 hk
  refine ⟨(.slice (some ⟨H.size, 0, none⟩) len len, H.push (.cells cs e)), ?_, _, A', φ', a1, a2, ?_, a4⟩
  · have hel : elemT P t = some e := by simp [elemT, ht]
    unfold buildSliceV
    simp only [hel, hi.size, hz, Option.bind_some]
    rw [if_pos (by omega)]
    unfold fillV
    rw [h5]
    rfl
  · simp only [VR]
    refine ⟨_, 0, len, a3, rfl, ⟨Nat.le_refl _, by omega⟩, Nat.le_refl _, ?_, fun _ => by simp, fun _ => rfl⟩
    rw [hsz]; show 0 + len * i.size ≤ len * i.size ∧ (len ≠ 0 → 0 + len * i.size = len * i.size); omega

/-! ### build -/
def bldA (zero : List AV) (parts : List (Nat × Nat × AV)) (k : AV → Bool) : Bool := bld parts zero fun l => k (.a l)
theorem bldA_ok {t : Nat} {i : TI} {pl : List (Nat × Nat)} {parts : List (Nat × Nat × AV)} {ps : List (Nat × Value)} {k : AV → Bool} (hi : TIok P t i) (hpl : i.pl = some pl) (hl : parts.length = ps.length)
    (hp : ∀ (j : Nat) p q, parts[j]? = some p → ps[j]? = some q → pl[q.1]? = some (p.1, p.2.1) ∧ VR σ φ p.2.2 q.2) (hk : bldA i.zero parts k = true) :
    ∃ v r, buildV P t ps = some r ∧ VR σ φ v r ∧ k v = true := by
  obtain ⟨z, hz, hzs, hv⟩ := hi.zer
  obtain ⟨cs, l, h5, h6, hk⟩ := bld_ok (place := fun q => pl[q]?) parts ps _ _ hl hp (hv σ φ) hk
  refine ⟨.a l, .agg cs, ?_, by simp only [VR]; exact ⟨cs, rfl, h6⟩, hk⟩
  unfold buildV
  rw [hi.pl, hpl]
  simp only [hz, Option.bind_some]
  rw [h5]
  rfl
theorem bldR_ok {t n e : Nat} {i j : TI} {parts : List (Nat × Nat × AV)} {ps : List (Nat × Value)} {k : AV → Bool} (hi : TIok P t i) (hpl : i.pl = none) (ht : P.underlying t = some (.array n e)) (hj : TIok P e j) (hl : parts.length = ps.length)
    (hp : ∀ (m : Nat) p q, parts[m]? = some p → ps[m]? = some q → p.1 = q.1 * j.size ∧ p.2.1 = j.size ∧ VR σ φ p.2.2 q.2) (hk : bldA i.zero parts k = true) :
    ∃ v r, buildV P t ps = some r ∧ VR σ φ v r ∧ k v = true := by
  obtain ⟨z, hz, hzs, hv⟩ := hi.zer
  obtain ⟨cs, l, h5, h6, hk⟩ := bld_ok (place := fun q => some (q * j.size, j.size)) parts ps _ _ hl (fun m p q a b => by
    obtain ⟨c1, c2, c3⟩ := hp m p q a b
    exact ⟨by rw [c1, c2], c3⟩) (hv σ φ) hk
  refine ⟨.a l, .agg cs, ?_, by simp only [VR]; exact ⟨cs, rfl, h6⟩, hk⟩
  have ha : arrS P t = some (n, j.size) := by simp [arrS, arrT, ht, hj.size]
  unfold buildV
  rw [hi.pl, hpl]
  simp only [ha, hz, Option.bind_some]
  rw [h5]
  rfl
end
end Go.Run
