
/- Closed runs: new memory that may be made earlier or later: blocks that lie aside, and are taken in. -/
import Derived.Test.YtndbdehpkiimjaaGreatRunT
namespace Go.Run
open Go.HL
variable {σ : Nat → Value} {F : Nat → Option Obj} {φ : Phi} {A : AH} {H : Heap} {P : Program} {V : HV}
noncomputable section
set_option linter.unusedVariables false

theorem BR.chg {F2 : Nat → Option Obj} {i : Id} {B : AB} (h : BR σ φ F H i B) (h2 : ∀ e, φ i = some e → F e.r = none → e.r < H.size → F2 e.r = none) : BR σ φ F2 H i B := by
  cases B with
  | no => trivial
  | c ro len t =>
    obtain ⟨e, h1, h3, h4, h5, c, el, fr, h6, rest⟩ := h
    exact ⟨e, h1, h3.imp (fun h3 => h2 e h1 h3 (Array.getElem?_eq_some_iff.1 h6).1) id, h4, h5, c, el, fr, h6, rest⟩
  | mp g n m =>
    obtain ⟨e, h1, h3, es, clk, h4, rest⟩ := h
    exact ⟨e, h1, h2 e h1 h3 (Array.getElem?_eq_some_iff.1 h4).1, es, clk, h4, rest⟩
theorem Rel.non (h : Rel σ F φ A H) {i : Id} (hi : A.get i ≠ .no) {e : Ent} (he : φ i = some e) : F e.r = none ∨ stat σ e.r := by
  have hl := h.liv i
  generalize A.get i = B at hi hl
  cases B with
  | no => exact absurd rfl hi
  | c ro len t => obtain ⟨e', h1, h2, _⟩ := hl; rw [he] at h1; cases h1; exact h2.imp id And.right
  | mp g n m => obtain ⟨e', h1, h2, _⟩ := hl; rw [he] at h1; cases h1; exact .inl h2
/-- A new block that lies aside. -/
theorem Rel.park (h : Rel σ F φ A H) (o : Obj) : Rel σ (fun r => if r = H.size then some o else F r) φ A (H.push o) := by
  refine ⟨h.dom, fun i => ?_, h.inj, fun r x hx => ?_, fun r hr => by have := h.st r hr; rw [Array.size_push]; omega⟩
  · have h1 : BR σ φ (fun r => if r = H.size then some o else F r) H i (A.get i) := (h.liv i).chg fun e he hn hlt => by
      show (if e.r = H.size then some o else F e.r) = none
      rw [if_neg (by omega)]; exact hn
    exact h1.keep fun x hx hlt => by rw [Array.getElem?_push_lt hlt, Array.getElem?_eq_getElem hlt]
  · have hx : (if r = H.size then some o else F r) = some x := hx
    split at hx
    · rename_i hr
      cases hx
      subst hr
      simp
    · have h1 := h.frm r x hx
      have h2 := (Array.getElem?_eq_some_iff.1 h1).1
      rw [Array.getElem?_push_lt h2, ← h1, Array.getElem?_eq_getElem h2]
/-- It is taken in. -/
theorem Rel.adopt {F' : Nat → Option Obj} (h : Rel σ F' φ A H) {r : Nat} {cs : Array Value} {el : TypeId} (hr : F' r = some (.cells cs el)) (hF : ∀ r', r' ≠ r → F r' = F' r') (h0 : F r = none) (hs : ¬ stat σ r)
    {j : Id} (hj : j.nat = A.nx.nat + 1) {len : Nat} {t : CT} (hro : len ≤ t.room) (hn : len ≤ cs.size) (hv : ∀ o, o < len → ∃ w, cs[o]? = some w ∧ VR σ φ (t.get o) w) :
    Rel σ F (φ.put A.nx ⟨r, 0, cs.size⟩) ((A.set A.nx (.c false len t)).to j) H := by
  have hne : ∀ i e, A.get i ≠ .no → φ i = some e → e.r ≠ r := by
    intro i e hi he hx
    rcases h.non hi he with this | this
    · rw [hx, hr] at this
      cases this
    · exact hs (hx ▸ this)
  refine ⟨?_, ?_, ?_, ?_, h.st⟩
  · intro i x hx
    show i.nat < j.nat
    unfold Phi.put at hx
    split at hx
    · rename_i hi; subst hi; omega
    · have := h.dom i x hx; omega
  · intro i
    rw [AH.get_to]
    by_cases hi : i = A.nx
    · subst hi
      rw [AH.get_set]
      refine ⟨_, if_pos rfl, .inl h0, hro, by simpa using hn, cs, el, (0, 0), h.frm _ _ hr, (fun _ => rfl), fun _ => rfl, fun o ho => ?_⟩
      obtain ⟨w, h1, h2⟩ := hv o ho
      exact ⟨w, by simpa using h1, VR.mono (h.le_put _) _ _ h2⟩
    · rw [AH.get_set' _ hi]
      by_cases hno : A.get i = .no
      · rw [hno]; trivial
      · refine ((h.liv i).mono (h.le_put _)).chg fun e he hn hlt => ?_
        have he' : φ i = some e := by
          unfold Phi.put at he
          rw [if_neg hi] at he
          exact he
        rw [hF _ (hne i e hno he')]; exact hn
  · intro i i' x x' hi hi' hx hx' hrr
    rw [AH.get_to] at hi hi'
    unfold Phi.put at hx hx'
    by_cases a : i = A.nx
    · by_cases a' : i' = A.nx
      · rw [a, a']
      · exfalso
        rw [if_pos a] at hx
        rw [if_neg a'] at hx'
        rw [AH.get_set' _ a'] at hi'
        simp only [Option.some.injEq] at hx
        subst hx
        exact hne _ _ hi' hx' hrr.symm
    · by_cases a' : i' = A.nx
      · exfalso
        rw [if_neg a] at hx
        rw [if_pos a'] at hx'
        rw [AH.get_set' _ a] at hi
        simp only [Option.some.injEq] at hx'
        subst hx'
        exact hne _ _ hi hx hrr
      · rw [if_neg a] at hx
        rw [if_neg a'] at hx'
        rw [AH.get_set' _ a] at hi
        rw [AH.get_set' _ a'] at hi'
        exact h.inj i i' x x' hi hi' hx hx' hrr
  · intro r' o ho
    by_cases hx : r' = r
    · subst hx; rw [h0] at ho; cases ho
    · rw [hF _ hx] at ho; exact h.frm _ _ ho

/-! ### Operations that make such memory -/
abbrev isFl (o : Oper) : Bool := match o.op, o.guard with
  | .alloc _, none => true
  | .makeSlice _ _ _, none => true
  | .buildSlice _ _ _, none => true
  | _, _ => false
def flX (P : Program) (H : Heap) (op : Op) (ev : Operand → Value) : Option (Value × Heap) :=
  match op with
  | .alloc t => (zeroT P t).map fun z => (newPtr H, H.push (.cells z.cells t))
  | .makeSlice t l c => makeV P H t (ev l) (ev c)
  | .buildSlice t len parts => buildSliceV P H t len (parts.toList.map fun p => (p.1, ev p.2))
  | _ => none
/-- What it makes, wherever it comes to lie. -/
def flS (P : Program) (op : Op) (ev : Operand → Value) (cs : Array Value) (el : TypeId) (wf : Nat → Value) : Prop := ∀ H, flX P H op ev = some (wf H.size, H.push (.cells cs el))
theorem flS_uniq {op : Op} {ev : Operand → Value} {cs cs' : Array Value} {el el' : TypeId} {wf wf' : Nat → Value} (h : flS P op ev cs el wf) (h' : flS P op ev cs' el' wf') : cs = cs' ∧ el = el' ∧ ∀ r, wf r = wf' r := by
  have key : ∀ H : Heap, wf H.size = wf' H.size ∧ (H.push (.cells cs el) : Heap) = H.push (.cells cs' el') := fun H => by
    have := (h H).symm.trans (h' H)
    simp only [Option.some.injEq, Prod.mk.injEq] at this
    exact this
  have h2 := (key #[]).2
  simp at h2
  refine ⟨h2.1, h2.2, fun r => ?_⟩
  have := (key (Array.replicate r (.cells #[] 0))).1
  simpa using this
def isFo : Op → Bool
  | .alloc _ => true
  | .makeSlice _ _ _ => true
  | .buildSlice _ _ _ => true
  | _ => false
theorem flX_congr {op : Op} {ev ev' : Operand → Value} (h : ∀ x ∈ op.operands.toList, ev x = ev' x) (hf : isFo op = true) : flX P H op ev = flX P H op ev' := by
  cases op with
  | alloc t => rfl
  | makeSlice t l c =>
    show makeV P H t (ev l) (ev c) = makeV P H t (ev' l) (ev' c)
    rw [h l (by simp [Op.operands]), h c (by simp [Op.operands])]
  | buildSlice t len parts =>
    show buildSliceV P H t len (parts.toList.map fun p => (p.1, ev p.2)) = buildSliceV P H t len (parts.toList.map fun p => (p.1, ev' p.2))
    have : (parts.toList.map fun p => (p.1, ev p.2)) = parts.toList.map fun p => (p.1, ev' p.2) := by
      apply List.map_congr_left
      intro p hp
      rw [h p.2 (by simp [Op.operands]; exact ⟨p.1, by simpa using hp⟩)]
    rw [this]
  | _ => cases hf
theorem flS_congr {op : Op} {ev ev' : Operand → Value} {cs : Array Value} {el : TypeId} {wf : Nat → Value} (h : ∀ x ∈ op.operands.toList, ev x = ev' x) (hf : isFo op = true)
    (hs : flS P op ev cs el wf) : flS P op ev' cs el wf := fun H => by rw [← flX_congr h hf]; exact hs H
theorem isFl_op {o : Oper} (h : isFl o = true) : o.guard = none ∧ isFo o.op = true := by
  obtain ⟨dst, op, type, pos, after, guard⟩ := o
  cases guard with
  | none => refine ⟨rfl, ?_⟩; cases op <;> first | rfl | cases h
  | some g => cases op <;> cases h
/-- It may be done at any heap. -/
theorem fl_run {n : Nat} {l : List Oper} {o : Oper} {e : En} {cs : Array Value} {el : TypeId} {wf : Nat → Value} {K : En → Heap → Prop} {Q : Exit → En → Heap → Prop} (hf : isFl o = true) (hs : flS P o.op e.ev cs el wf)
    (hk : K (e.put n o.dst (wf H.size)) (H.push (.cells cs el))) : opG n P l.toArray o e H K Q := by
  obtain ⟨hg, ho⟩ := isFl_op hf
  unfold opG
  rw [hg]
  have h := hs H
  obtain ⟨dst, op, type, pos, after, guard⟩ := o
  cases op with
  | alloc t =>
    show someW (zeroT P t) _
    unfold flX at h
    simp only [Option.map_eq_some_iff, Prod.mk.injEq] at h
    obtain ⟨z, hz, h1, h2⟩ := h
    rw [hz]
    show K (e.put n dst (newPtr H)) (H.push (.cells z.cells t))
    rw [h1, h2]; exact hk
  | makeSlice t l c =>
    show someW (makeV P H t (e.ev l) (e.ev c)) _
    have h : makeV P H t (e.ev l) (e.ev c) = _ := h
    rw [h]; exact hk
  | buildSlice t len parts =>
    show someW (buildSliceV P H t len (parts.toList.map fun p => (p.1, e.ev p.2))) _
    have h : buildSliceV P H t len (parts.toList.map fun p => (p.1, e.ev p.2)) = _ := h
    rw [h]; exact hk
  | _ => cases ho

/-- What an abstract operation of this kind makes. -/
def FLI (P : Program) (σ : Nat → Value) (φ : Phi) (A : AH) (op : Op) (ev : Operand → Value) (k : AV → AH → Bool) : Prop :=
  ∃ (m : Nat) (t : CT) (vf : Id → AV) (cs : Array Value) (el : TypeId) (wf : Nat → Value), newL A m t (fun j A' => k (vf j) A') = true ∧ flS P op ev cs el wf ∧ m ≤ t.room ∧ m ≤ cs.size ∧ (∀ o, o < m → ∃ w, cs[o]? = some w ∧ VR σ φ (t.get o) w) ∧
    ∀ (φ' : Phi) (j : Id) (r : Nat), φ' j = some ⟨r, 0, cs.size⟩ → VR σ φ' (vf j) (wf r)
theorem allA_inv {l : List AV} {k : AV → AH → Bool} {t : TypeId} {z : Value} {ev : Operand → Value} (hz : zeroT P t = some z) (hv : VRl σ φ l z.cells.toList) (hk : allA A l k = true) : FLI P σ φ A (.alloc t) ev k := by
  obtain ⟨h1, hk⟩ := ifB_and hk
  have h1 := Nat.le_of_ble_eq_true h1
  rw [lenL_eq] at h1 hk
  obtain ⟨g1, g2, g3⟩ := ctL_cells h1 hv
  refine ⟨l.length, ctL l, fun i => .p i 0, z.cells, t, fun r => .pointer (some ⟨r, 0, none⟩), hk, fun H => ?_, g1, by omega, g3, fun φ' j r hj => ?_⟩
  · show (zeroT P t).map (fun z => (newPtr H, H.push (.cells z.cells t))) = _
    rw [hz]; rfl
  · simp only [VR]; exact ⟨_, hj, rfl⟩
theorem makA_inv {t e : Nat} {i : TI} {l c : AV} {lo co : Operand} {ev : Operand → Value} {k : AV → AH → Bool} (ht : P.underlying t = some (.slice e)) (hi : TIok P e i) (hl : VR σ φ l (ev lo)) (hc : VR σ φ c (ev co)) (hk : makA A i l c k = true) :
    FLI P σ φ A (.makeSlice t lo co) ev k := by
  unfold makA at hk
  obtain ⟨g, n, hwl, hk⟩ := idx_sound hl hk
  obtain ⟨g', m, hwc, hk⟩ := idx_sound hc hk
  obtain ⟨h1, hk⟩ := ifB_and hk
  obtain ⟨h2, hk⟩ := ifB_and hk
  obtain ⟨h3, hk⟩ := ifB_and hk
  rw [frc_eq] at hk
  obtain ⟨h4, hk⟩ := ifB_and hk
  have h1 := Nat.le_of_ble_eq_true h1
  have h2 := Nat.le_of_ble_eq_true h2
  have h3 := Nat.le_of_ble_eq_true h3
  have h4 := Nat.le_of_ble_eq_true h4
  simp only [Nat.mul_eq] at hk h4
  obtain ⟨z, hz, hzs, hv⟩ := hi.zer
  obtain ⟨g1, g2⟩ := zeroT'_ok (n := m) (hv σ φ) (by rw [hi.len]; exact h4)
  rw [hi.len] at g1 g2
  rw [hzs] at g2
  refine ⟨_, _, fun j => .q j 0 n m i.size true, mkCells z.cells (m * i.size), e, fun r => .slice (some ⟨r, 0, none⟩) n m, hk, fun H => ?_, g1, by rw [mkCells_size]; exact Nat.le_refl _, g2, fun φ' j r hj => ?_⟩
  · have hel : elemT P t = some e := by simp [elemT, ht]
    show makeV P H t (ev lo) (ev co) = _
    rw [hwl, hwc]
    unfold makeV
    simp only [hel, hi.bytes, hi.size, hz, Option.bind_some, Int.toNat_natCast]
    rw [if_pos]
    refine ⟨by omega, by omega, by omega, ?_⟩
    have : i.bytes * m ≤ 1048576 * 65536 := Nat.mul_le_mul h3 h2
    have e1 : ((i.bytes : Nat) : Int) * (m : Int) = ((i.bytes * m : Nat) : Int) := by simp
    rw [e1]; omega
  · simp only [VR]
    refine ⟨_, 0, m, hj, rfl, ⟨h1, by omega⟩, Nat.le_refl _, ?_, fun _ => by simp, fun _ => rfl⟩
    rw [mkCells_size]; show 0 + m * i.size ≤ m * i.size ∧ (m ≠ 0 → 0 + m * i.size = m * i.size); omega
theorem bslA_inv {t e len : Nat} {i : TI} {parts : List (Nat × Nat × AV)} {ops : Array (Nat × Operand)} {ev : Operand → Value} {k : AV → AH → Bool} (ht : P.underlying t = some (.slice e)) (hi : TIok P e i) (hl : parts.length = (ops.toList.map fun p => (p.1, ev p.2)).length)
    (hp : ∀ (j : Nat) p q, parts[j]? = some p → (ops.toList.map fun p => (p.1, ev p.2))[j]? = some q → p.1 = q.1 * i.size ∧ p.2.1 = i.size ∧ VR σ φ p.2.2 q.2) (hk : bslA A i len parts k = true) :
    FLI P σ φ A (.buildSlice t len ops) ev k := by
  obtain ⟨h0, hk⟩ := ifB_and hk
  have h0 := Nat.le_of_ble_eq_true h0
  obtain ⟨h4, hk⟩ := ifB_and hk
  have h4 := Nat.le_of_ble_eq_true h4
  simp only [Nat.mul_eq] at h4
  obtain ⟨z, hz, hzs, hv⟩ := hi.zer
  have hr := repL_ok (n := len) (hv σ φ)
  rw [hzs] at hr
  obtain ⟨cs, l, h5, h6, hk⟩ := bld_ok (place := fun q => some (q * i.size, i.size)) parts _ _ _ hl (fun j p q a b => by
    obtain ⟨c1, c2, c3⟩ := hp j p q a b
    exact ⟨by rw [c1, c2], c3⟩) hr hk
  have hsz : cs.size = len * i.size := by rw [fill_size _ _ _ h5, mkCells_size]
  have hll : l.length = len * i.size := by have := h6.length; simp only [Array.length_toList] at this; omega
  rw [lenL_eq] at hk
  obtain ⟨g1, g2, g3⟩ := ctL_cells (by rw [hll]; exact h4) h6
  refine ⟨_, _, fun j => .q j 0 len len i.size true, cs, e, fun r => .slice (some ⟨r, 0, none⟩) len len, hk, fun H => ?_, g1, by omega, g3, fun φ' j r hj => ?_⟩
  · have hel : elemT P t = some e := by simp [elemT, ht]
    show buildSliceV P H t len (ops.toList.map fun p => (p.1, ev p.2)) = _
    unfold buildSliceV
    simp only [hel, hi.size, hz, Option.bind_some]
    rw [if_pos (by omega)]
    unfold fillV
    rw [h5]
    rfl
  · simp only [VR]
    refine ⟨_, 0, len, hj, rfl, ⟨Nat.le_refl _, by omega⟩, Nat.le_refl _, ?_, fun _ => by simp, fun _ => rfl⟩
    rw [hsz]; show 0 + len * i.size ≤ len * i.size ∧ (len ≠ 0 → 0 + len * i.size = len * i.size); omega
theorem fl_inv {T : TR} {Tb : FT} {ρ : Nat → AV} {e : En} (hT : TTok P T) (he : ER σ φ ρ e) {o : Oper} (hf : isFl o = true) {k : AV → AH → Bool} (h : dA T Tb ρ A o.op k = true) : FLI P σ φ A o.op e.ev k := by
  obtain ⟨hg, ho⟩ := isFl_op hf
  obtain ⟨dst, op, type, pos, after, guard⟩ := o
  cases op with
  | alloc t =>
    obtain ⟨i, hi, h⟩ := withT_ok hT h
    obtain ⟨z, hz, hzs, hv⟩ := hi.zer
    exact allA_inv hz (hv σ φ) h
  | makeSlice t l c =>
    obtain ⟨i, hi, h⟩ := withT_ok hT h
    obtain ⟨d, hu, hd⟩ := hi.kind
    split at h
    · rename_i el hkk
      obtain ⟨j, hj, h⟩ := withT_ok hT h
      exact makA_inv (elemS_of hu (hd.trans hkk) hj).2.2 hj (ev_ok he l) (ev_ok he c) h
    · cases h
  | buildSlice t len parts =>
    obtain ⟨i, hi, h⟩ := withT_ok hT h
    obtain ⟨d, hu, hd⟩ := hi.kind
    split at h
    · rename_i el hkk
      obtain ⟨j, hj, h⟩ := withT_ok hT h
      obtain ⟨l, h1, h2, h⟩ := partsR_ok he _ _ h
      exact bslA_inv (elemS_of hu (hd.trans hkk) hj).2.2 hj h1 h2 h
    · cases h
  | _ => cases ho

/-! ### Stores into different blocks -/
theorem setH_other {H : Heap} {a : Addr} {v : Value} {r : Nat} (h : r ≠ a.block) : (setH H a v)[r]? = H[r]? := by
  unfold setH
  rw [Array.getElem?_modify, if_neg (fun e => h e.symm)]
theorem setH_same {H H2 : Heap} {a : Addr} {v : Value} (h : H2[a.block]? = H[a.block]?) : (setH H2 a v)[a.block]? = (setH H a v)[a.block]? := by
  unfold setH
  rw [Array.getElem?_modify, Array.getElem?_modify, if_pos rfl, if_pos rfl, h]
theorem storeCells_move {a : Addr} : ∀ (vs : List Value) (i : Nat) (H H' H2 : Heap), storeCellsH H a vs i = some H' → H2[a.block]? = H[a.block]? →
    ∃ H2', storeCellsH H2 a vs i = some H2' ∧ H2'[a.block]? = H'[a.block]? ∧ (∀ r, r ≠ a.block → H2'[r]? = H2[r]?) ∧ ∀ r, r ≠ a.block → H'[r]? = H[r]?
  | [], i, H, H', H2, h, hb => by
    simp only [storeCellsH, Option.some.injEq] at h
    subst h
    exact ⟨H2, rfl, hb, fun _ _ => rfl, fun _ _ => rfl⟩
  | v :: vs, i, H, H', H2, h, hb => by
    simp only [storeCellsH] at h
    split at h
    · rename_i hc
      have hab : (a.add i).block = a.block := by unfold Addr.add; split <;> rfl
      obtain ⟨H2', h1, h2, h3, h4⟩ := storeCells_move vs (i + 1) _ H' (setH H2 (a.add i) v) h (by rw [← hab]; exact setH_same (by rw [hab]; exact hb))
      refine ⟨H2', ?_, h2, fun r hr => by rw [h3 r hr, setH_other (by rw [hab]; exact hr)], fun r hr => by rw [h4 r hr, setH_other (by rw [hab]; exact hr)]⟩
      simp only [storeCellsH]
      have e1 : cellH H2 (a.add i) = cellH H (a.add i) := by unfold cellH; rw [hab, hb]
      have e2 : frozenH H2 (a.add i) = frozenH H (a.add i) := by unfold frozenH; rw [hab, hb]
      rw [e1, e2, if_pos hc]
      exact h1
    · cases h
theorem storeA_move {t : TypeId} {a : Addr} {v : Value} {H H' H2 : Heap} (h : storeA P H t a v = some H') (hb : H2[a.block]? = H[a.block]?) :
    ∃ H2', storeA P H2 t a v = some H2' ∧ H2'[a.block]? = H'[a.block]? ∧ (∀ r, r ≠ a.block → H2'[r]? = H2[r]?) ∧ ∀ r, r ≠ a.block → H'[r]? = H[r]? := by
  unfold storeA at h ⊢
  cases hs : sizeT P t with
  | none => rw [hs] at h; cases h
  | some s =>
    rw [hs] at h
    simp only at h ⊢
    split at h
    · rename_i hc
      rw [if_pos hc]
      exact storeCells_move _ _ _ _ _ h hb
    · cases h
/-- Two stores into different blocks may be done in either order. -/
theorem storeA_swap {t t' : TypeId} {a a' : Addr} {v v' : Value} {H H1 H2 : Heap} (hne : a.block ≠ a'.block) (h1 : storeA P H t a v = some H1) (h2 : storeA P H1 t' a' v' = some H2) :
    ∃ H3, storeA P H t' a' v' = some H3 ∧ storeA P H3 t a v = some H2 ∧ (∀ r, r ≠ a'.block → H3[r]? = H[r]?) ∧ H3[a'.block]? = H2[a'.block]? := by
  obtain ⟨_, _, _, _, m1⟩ := storeA_move h1 (H2 := H) rfl
  obtain ⟨H3, s1, s2, s3, m2⟩ := storeA_move h2 (H2 := H) (by rw [m1 _ (fun e => hne e.symm)])
  obtain ⟨H4, u1, u2, u3, _⟩ := storeA_move h1 (H2 := H3) (by rw [s3 _ hne])
  have : H4 = H2 := by
    apply Array.ext_getElem?
    intro r
    by_cases e : r = a.block
    · subst e; rw [u2, m2 _ hne]
    · by_cases e' : r = a'.block
      · subst e'; rw [u3 _ e, s2]
      · rw [u3 _ e, s3 _ e', m2 _ e', m1 _ e]
  subst this
  exact ⟨H3, s1, u1, s3, s2⟩
end
end Go.Run
