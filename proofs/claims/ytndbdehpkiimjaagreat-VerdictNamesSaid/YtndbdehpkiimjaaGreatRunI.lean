
/- Closed runs: append; slices made with a length; slices put together. -/
import Derived.Test.YtndbdehpkiimjaaGreatRunH
namespace Go.Run
open Go.HL
set_option linter.unusedVariables false
variable {σ : Nat → Value} {F : Nat → Option Obj} {φ : Phi} {A : AH} {H : Heap} {P : Program} {V : HV}

/-- What an append of n elements asks of a heap. -/
def AG (H : Heap) (size bytes e : Nat) (z : Value) (n : Nat) (new : List Value) (K : Value → Heap → Prop) (w : Value) : Prop :=
  ∃ base len cap, w = .slice base len cap ∧ (len + n ≤ cap → match base with
      | some a => ∃ H', storeCellsH H (a.add (len * size)) new 0 = some H' ∧ K (.slice base (len + n) cap) H'
      | none => K (.slice base (len + n) cap) H) ∧
    (cap < len + n → Builtin.nextslicecap (len + n) cap * bytes ≤ 281474976710656 ∧ len + n ≤ 281474976710656 ∧ ∃ old, srcCells H size len w = some old ∧ ∀ newCap, len + n ≤ newCap → newCap < 9223372036854775808 →
      K (.slice (some ⟨H.size, 0, none⟩) (len + n) newCap) (H.push (.cells (old.toArray ++ new.toArray ++ Builtin.zeroCells z.cells (newCap - (len + n))) e)))
theorem AG_of {size bytes e : Nat} {z : Value} {n : Nat} {new : List Value} {K : Value → Heap → Prop} {base : Option Addr} {len cap : Nat}
    (fits : len + n ≤ cap → match base with
      | some a => ∃ H', storeCellsH H (a.add (len * size)) new 0 = some H' ∧ K (.slice base (len + n) cap) H'
      | none => K (.slice base (len + n) cap) H)
    (grows : cap < len + n → Builtin.nextslicecap (len + n) cap * bytes ≤ 281474976710656 ∧ len + n ≤ 281474976710656 ∧ ∃ old, srcCells H size len (.slice base len cap) = some old ∧ ∀ newCap, len + n ≤ newCap → newCap < 9223372036854775808 →
      K (.slice (some ⟨H.size, 0, none⟩) (len + n) newCap) (H.push (.cells (old.toArray ++ new.toArray ++ Builtin.zeroCells z.cells (newCap - (len + n))) e))) : AG H size bytes e z n new K (.slice base len cap) :=
  ⟨base, len, cap, rfl, fits, grows⟩
theorem appW_of {t xt e size bytes n : Nat} {z : Value} {s x : Value} {new : List Value} {d : TypeDesc} {K : Value → Heap → Prop}
    (he : elemT P t = some e) (h1 : sizeT P e = some size) (h2 : bytesT P e = some bytes) (hz : zeroT P e = some z) (hn : lenS x = some n) (hnew : srcCells H size n x = some new) (hd : P.underlying xt = some d) (hdi : ∀ kk, d ≠ .int kk)
    (h : AG H size bytes e z n new K s) : appW P H t xt s x K := by
  obtain ⟨base, len, cap, rfl, fits, grows⟩ := h
  unfold appW
  simp only [someW_iff]
  refine ⟨e, he, size, h1, bytes, h2, z, hz, n, hn, new, hnew, d, hd, hdi, ?_⟩
  split
  · rename_i hf
    have := fits hf
    cases base with
    | none => exact this
    | some a => exact this
  · rename_i hf
    obtain ⟨g1, g2, old, g3, g4⟩ := grows (by omega)
    exact ⟨g1, g2, fun _ => by omega, old, g3, g4⟩
/-- An append of n zeros. -/
theorem hwp_appendZ {t xt e size bytes n ty : Nat} {g : IntKind} {z : Value} {s : Value} {K : Value → Heap → Prop} {E : Value → Heap → Prop}
    (he : P.underlying t = some (.slice e)) (h1 : sizeT P e = some size) (h2 : bytesT P e = some bytes) (hz : zeroT P e = some z) (hzs : z.cells.size = size) (hd : P.underlying xt = some (.int g)) (hn : n ≤ 60000) (hb : bytes ≤ 1048576)
    (h : AG H size bytes e z n (Builtin.zeroCells z.cells n).toList K s) : hwp P (Builtin.append_ #[t, xt] ty #[s, .int .i64 (n : Nat)]) H K E := by
  obtain ⟨base, len, cap, rfl, fits, grows⟩ := h
  have hi : ∃ i, P.info? e = some i ∧ i.bytes = bytes := by
    unfold bytesT at h2
    cases hi : P.info? e with
    | none => simp [hi] at h2
    | some i => simp [hi] at h2; exact ⟨i, rfl, h2⟩
  obtain ⟨i, hi, hib⟩ := hi
  have hnb : (n : Int) * (bytes : Int) ≤ 281474976710656 := by
    have : n * bytes ≤ 60000 * 1048576 := Nat.mul_le_mul hn hb
    have e1 : ((n : Nat) : Int) * (bytes : Int) = ((n * bytes : Nat) : Int) := by simp
    rw [e1]; omega
  unfold Builtin.append_
  simp only [List.getElem?_toArray, List.getElem?_cons_zero, List.getElem?_cons_succ]
  refine hwp_qbind (qrun_underlying he H) ?_
  simp only
  refine hwp_qbind (qrun_sizeOf h1 H) ?_
  refine hwp_qbind (qrun_underlying hd H) ?_
  refine hwp_qbind (a := true) rfl ?_
  simp only [if_true]
  have wn : IntKind.i64.wrap (n : Int) = n := wrap_i64_small n (by omega) (by omega)
  refine hwp_qbind (a := (n : Int)) rfl ?_
  simp only [wn]
  rw [if_neg (by omega)]
  refine hwp_qbind (qrun_typeInfo hi H) ?_
  rw [hib, if_neg (by simp; omega)]
  simp only [Int.toNat_natCast]
  refine hwp_qbind (a := n) rfl ?_
  have app : qrun P (if n * size = 0 then pure #[] else do pure (Builtin.zeroCells (← zeroValue e).cells n) : Sem (Array Value)) H = some (Builtin.zeroCells z.cells n) := by
    split
    · rename_i h0
      have : Builtin.zeroCells z.cells n = #[] := by apply Array.eq_empty_of_size_eq_zero; simp [Builtin.zeroCells, hzs, h0]
      rw [this]; rfl
    · rw [qrun_bind', qrun_zeroValue hz]; rfl
  by_cases hf : len + n ≤ cap
  · rw [if_pos hf]
    refine hwp_qbind app ?_
    have := fits hf
    cases base with
    | none => exact this
    | some a =>
      obtain ⟨H', hst, hk⟩ := this
      simp only
      rw [hwp_bind']
      exact hwp_storeCells _ 0 H H' hst hk
  · rw [if_neg hf]
    obtain ⟨g1, g2, old, hold, hk⟩ := grows (by omega)
    refine hwp_qbind (qrun_typeInfo hi H) ?_
    rw [if_neg (by rintro ⟨ha, _⟩; simp [IntKind.max, IntKind.bits, IntKind.signed] at ha; omega)]
    refine hwp_qbind (qrun_typeInfo hi H) ?_
    rw [hib, if_neg (by simp; omega)]
    rw [hwp_bind']
    show hwp P (choose (.appendCap (len + n) cap e)) H _ E
    simp only [choose, hwp, Question.forced]
    intro tt
    simp only [Question.cut]
    refine hwp_qbind (qrun_typeInfo hi H) ?_
    refine hwp_qbind (a := ()) (by unfold askRoom; split <;> rfl) ?_
    refine hwp_qbind (qrun_firstCells hold) ?_
    refine hwp_qbind app ?_
    refine hwp_qbind (qrun_zeroValue hz H) ?_
    have := hk (len + n + tt % (2 ^ 63 - (len + n))) (by omega) (by have := Nat.mod_lt tt (y := 2 ^ 63 - (len + n)) (by omega); omega)
    rw [Array.toArray_toList] at this
    exact this

theorem appC_ok {q : AV} {w : Value} {e bytes z n : Nat} {zv : Value} {l : List AV} {new : List Value} {k : AV → AH → Bool} {K : Value → Heap → Prop} (h : Rel σ F φ A H) (hq : VR σ φ q w) (hl : VRl σ φ l new) (hll : l.length = n * z)
    (hb : bytes ≤ 1048576) (hzs : zv.cells.size = z)
    (hK : ∀ v A' φ' w' H', φ.le φ' → Rel σ F φ' A' H' → VR σ φ' v w' → k v A' = true → K w' H') (hk : appC A q n l z k = true) : AG H z bytes e zv n new K w := by
  unfold appC at hk
  have hnl := hl.length
  have room : ∀ m c : Nat, m ≤ 60000 → c < m → Builtin.nextslicecap m c * bytes ≤ 281474976710656 := by
    intro m c hm hc
    have := nextcap_le hc
    calc Builtin.nextslicecap m c * bytes ≤ (2 * m + 768) * 1048576 := Nat.mul_le_mul this hb
      _ ≤ 281474976710656 := by omega
  cases q with
  | q d o len cap z' ex =>
    have hq0 := hq
    simp only [VR] at hq
    obtain ⟨e', x', c, g1, rfl, g3, g4, g5, g6, g7⟩ := hq
    replace hk : ifB (Nat.beq z z') (frc (Nat.add len n) fun need => ifB (Nat.ble need cap)
      (stN A (.p d (Nat.add o (Nat.mul len z))) l fun A => k (.q d o need cap z ex) A)
      (ifB (Nat.ble need 60000) (ifB ex (srcK A (.q d o len cap z' ex) z fun _ old => growA A (appL old l) need z k)
        ((A.get d).on_c (fun ro blen t => ifB ro false (ifB (onesA l) (frc (Nat.mul need z) fun tot => ifB (Nat.ble tot 65536) (ifB (Nat.ble (Nat.add o (Nat.mul len z)) blen)
          (newB (A.set d .no) (.c false tot (@Bool.rec (fun _ => CT) (ctL (appL (rowA t o (Nat.mul len z)) l)) (setL l (Nat.mul len z) (fit t tot)) (Nat.beq o 0))) fun i A => k (.q i 0 need need z false) A) false) false) false)) false)) false)) false = true := hk
    obtain ⟨b1, ka⟩ := ifB_and hk
    have b1 := Nat.eq_of_beq_eq_true b1
    subst b1
    rw [frc_eq] at ka
    clear hk
    simp only [Nat.add_eq, Nat.mul_eq] at ka
    cases hfit : Nat.ble (len + n) cap with
    | true =>
      rw [hfit] at ka
      have hfit := Nat.le_of_ble_eq_true hfit
      have ka : stN A (.p d (o + len * z)) l (fun A => k (.q d o (len + n) cap z ex) A) = true := ka
      obtain ⟨a, A', H', c1, c2, c3, c4⟩ := stN_sound h (p := .p d (o + len * z)) (w := .pointer (some ⟨e'.r, e'.s + (o + len * z), none⟩)) (by simp only [VR]; exact ⟨e', g1, rfl⟩) hl ka
      simp only [Value.pointer.injEq, Option.some.injEq] at c1
      subst c1
      refine AG_of (fun _ => ?_) (fun hh => by omega)
      by_cases hcap : cap = 0
      · have : n = 0 := by omega
        subst this
        have : l = [] := by apply List.eq_nil_of_length_eq_zero; simpa using hll
        subst this
        simp only [VRl] at hl
        subst hl
        simp only [storeCellsH, Option.some.injEq] at c2 ⊢
        subst c2
        refine ⟨H, rfl, hK _ A' φ _ H φ.le_refl c3 ?_ c4⟩
        simp only [VR]
        exact ⟨e', x', c, g1, rfl, ⟨hfit, g3.2⟩, g4, g5, g6, g7⟩
      · show ∃ H', storeCellsH H ((⟨e'.r, x', none⟩ : Addr).add (len * z)) new 0 = some H' ∧ K (.slice (some ⟨e'.r, x', none⟩) (len + n) c) H'
        rw [g6 (.inl hcap), addr_add]
        refine ⟨H', by rw [show e'.s + o + len * z = e'.s + (o + len * z) by omega]; exact c2, hK _ A' φ _ H' φ.le_refl c3 ?_ c4⟩
        simp only [VR]
        exact ⟨e', e'.s + o, c, g1, rfl, ⟨hfit, g3.2⟩, g4, by rw [← g6 (.inl hcap)]; exact g5, fun _ => rfl, g7⟩
    | false =>
      rw [hfit] at ka
      have hfit : cap < len + n := by
        apply Nat.lt_of_not_le
        intro hh
        rw [Nat.ble_eq_true_of_le hh] at hfit
        cases hfit
      obtain ⟨b2, ka⟩ := ifB_and (show ifB _ _ false = true from ka)
      have b2 := Nat.le_of_ble_eq_true b2
      cases ex with
      | true =>
        have hc := g7 rfl
        obtain ⟨m, ol, old, d1, d2, d3, d4, ka⟩ := srcK_sound h hq0 (show srcK A (.q d o len cap z true) z (fun _ old => growA A (appL old l) (len + n) z k) = true from ka)
        simp only [lenS, Option.some.injEq] at d1
        subst d1
        refine AG_of (fun hh => by omega) (fun hh => ⟨room _ _ b2 (by omega), by omega, old, d2, fun nc e1 e2 => ?_⟩)
        rw [appL_eq] at ka
        obtain ⟨v, A', φ', f1, f2, f3, f4⟩ := grow_ok (ws := old ++ new) (rest := (Builtin.zeroCells zv.cells (nc - (len + n))).toList) (el := e) (c := nc) h (d3.app hl) (by simp [d4, hll, Nat.add_mul]) e1 (by
          have hol := d3.length
          simp only [List.length_append, Array.length_toList, zeroCells_size, hzs]
          rw [← hol, ← hnl, d4, hll]
          have : nc * z = (nc - (len + n)) * z + (len + n) * z := by rw [← Nat.add_mul]; congr 1; omega
          rw [this, Nat.add_mul]; omega) (by omega) ka
        have ea : (old ++ new).toArray ++ (Builtin.zeroCells zv.cells (nc - (len + n))).toList.toArray = old.toArray ++ new.toArray ++ Builtin.zeroCells zv.cells (nc - (len + n)) := by apply Array.ext'; simp
        rw [ea] at f2
        exact hK v A' φ' _ _ f1 f2 f3 f4
      | false =>
        have ka : (A.get d).on_c (fun ro blen t => ifB ro false (ifB (onesA l) (frc ((len + n) * z) fun tot => ifB (Nat.ble tot 65536) (ifB (Nat.ble (o + len * z) blen)
          (newB (A.set d .no) (.c false tot (@Bool.rec (fun _ => CT) (ctL (appL (rowA t o (len * z)) l)) (setL l (len * z) (fit t tot)) (Nat.beq o 0))) fun i A => k (.q i 0 (len + n) (len + n) z false) A) false) false) false)) false = true := ka
        rcases AB.on_c_eq (A.get d) (fun ro blen t => ifB ro false (ifB (onesA l) (frc ((len + n) * z) fun tot => ifB (Nat.ble tot 65536) (ifB (Nat.ble (o + len * z) blen)
          (newB (A.set d .no) (.c false tot (@Bool.rec (fun _ => CT) (ctL (appL (rowA t o (len * z)) l)) (setL l (len * z) (fit t tot)) (Nat.beq o 0))) fun i A => k (.q i 0 (len + n) (len + n) z false) A) false) false) false)) false with ⟨ro, blen, tr, hg, e1⟩ | e1
        · rw [e1] at ka
          obtain ⟨i1, ka⟩ := ifB_or ka
          subst i1
          obtain ⟨i2, ka⟩ := ifB_and ka
          rw [frc_eq] at ka
          obtain ⟨i3, ka⟩ := ifB_and ka
          obtain ⟨i4, ka⟩ := ifB_and ka
          have i3 := Nat.le_of_ble_eq_true i3
          have i4 := Nat.le_of_ble_eq_true i4
          obtain ⟨j, hj, ka⟩ := newB_sound ka
          rw [AH.nx_set] at hj ka
          obtain ⟨e2, j1, j3, j4, j5, cc, el, fr, j6, j7, j8, j9⟩ := h.cells hg
          have j7 := j7 rfl
          rw [g1] at j1
          simp only [Option.some.injEq] at j1
          subst j1
          have tot : (len + n) * z = len * z + n * z := Nat.add_mul ..
          -- the cells of the new tree
          have tree : ∀ T, T = (@Bool.rec (fun _ => CT) (ctL (appL (rowA tr o (len * z)) l)) (setL l (len * z) (fit tr ((len + n) * z))) (Nat.beq o 0)) → (len + n) * z ≤ T.room ∧ ∀ m, m < (len + n) * z → T.get m = if m < len * z then tr.get (o + m) else l.getD (m - len * z) .u := by
            intro T hT
            cases ho : Nat.beq o 0 with
            | true =>
              rw [ho] at hT
              have := Nat.eq_of_beq_eq_true ho
              subst this
              simp only at hT
              have hr := fit_room tr ((len + n) * z) i3
              refine ⟨by rw [hT, setL_room]; exact hr, fun m hm => ?_⟩
              rw [hT, setL_get l _ _ (by rw [hll]; omega) m (by omega)]
              by_cases hlt : m < len * z
              · rw [if_neg (by omega), if_pos hlt, fit_get _ _ _ (by omega), Nat.zero_add]
              · rw [if_pos (by rw [hll]; omega), if_neg hlt]
            | false =>
              rw [ho] at hT
              simp only [appL_eq] at hT
              have hlen : (rowA tr o (len * z) ++ l).length = (len + n) * z := by simp [rowA_length, hll, Nat.add_mul]
              refine ⟨by rw [hT, ← hlen]; exact ctL_room _ (by rw [hlen]; exact i3), fun m hm => ?_⟩
              rw [hT, ctL_get _ (by rw [hlen]; exact i3) m (by rw [hlen]; exact hm), List.getD_eq_getElem?_getD]
              by_cases hlt : m < len * z
              · rw [List.getElem?_append_left (by rw [rowA_length]; exact hlt), rowA_get _ _ _ _ hlt, if_pos hlt]; rfl
              · rw [List.getElem?_append_right (by rw [rowA_length]; omega), rowA_length, if_neg hlt, List.getD_eq_getElem?_getD]
          obtain ⟨t1, t2⟩ := tree _ rfl
          generalize (@Bool.rec (fun _ => CT) (ctL (appL (rowA tr o (len * z)) l)) (setL l (len * z) (fit tr ((len + n) * z))) (Nat.beq o 0)) = T at t1 t2 ka
          -- where the slice lies
          have hx0 : len * z ≠ 0 → x' = e'.s + o := fun hh => g6 (.inl (fun hc0 => by
            have : len = 0 := by omega
            rw [this] at hh
            simp at hh))
          -- the old cells
          have oldc : ∀ m, m < len * z → ∃ w, cc[x' + m]? = some w ∧ VR σ φ (tr.get (o + m)) w := by
            intro m hm
            obtain ⟨w, a1, a2⟩ := j9 (o + m) (by omega)
            exact ⟨w, by rw [hx0 (by omega), show e'.s + o + m = e'.s + (o + m) by omega]; exact a1, a2⟩
          have hle : x' + c * z ≤ cc.size := by have := g5.1; omega
          refine AG_of (fun hfits => ?_) (fun hgrow => ⟨room _ _ b2 hgrow, by omega, ?_⟩)
          · -- in place
            have hcz : (len + n) * z ≤ c * z := Nat.mul_le_mul_right _ hfits
            obtain ⟨H', c', k1, k2, k3, k4, k5, k6⟩ := store_row new H e'.r (x' + len * z) 0 cc el fr (onesA_sound i2 hl) j6 (j8 rfl) (by rw [← hnl, hll]; omega)
            show ∃ H', storeCellsH H ((⟨e'.r, x', none⟩ : Addr).add (len * z)) new 0 = some H' ∧ K (.slice (some ⟨e'.r, x', none⟩) (len + n) c) H'
            rw [addr_add]
            refine ⟨H', k1, ?_⟩
            refine hK _ _ _ _ _ (h.le_put ⟨e'.r, x', e'.n⟩) (h.move (n := (len + n) * z) (t' := T) hj hg g1 k2 (by omega) (j8 rfl) k5 k6 t1 (by omega) ?_) ?_ ka
            · intro m hm
              rw [t2 m hm, k4]
              by_cases hlt : m < len * z
              · rw [if_pos hlt, if_neg (by omega)]
                exact oldc m hlt
              · rw [if_neg hlt, if_pos (by rw [← hnl, hll]; omega)]
                obtain ⟨w, a1, a2⟩ := hl.get (j := m - len * z) (v := l.getD (m - len * z) .u) (by rw [List.getD_eq_getElem?_getD, List.getElem?_eq_getElem (by rw [hll]; omega)]; rfl)
                exact ⟨w, by rw [show x' + m - (x' + len * z + 0) = m - len * z by omega]; exact a1, a2⟩
            · simp only [VR]
              exact ⟨_, x', c, if_pos rfl, rfl, ⟨Nat.le_refl _, by omega⟩, hfits, by show x' + c * z ≤ e'.n ∧ (c ≠ 0 → x' + c * z = e'.n); omega, fun _ => rfl, fun hh => by cases hh⟩
          · -- a new block
            have hold : ∃ old, srcCells H z len (.slice (some ⟨e'.r, x', none⟩) len c) = some old ∧ VRl σ φ (rowA tr o (len * z)) old := by
              by_cases hz0 : len * z = 0
              · refine ⟨[], by simp only [srcCells, hz0, cellsH], by rw [hz0]; simp [rowA, VRl]⟩
              · obtain ⟨ws, a1, a2⟩ := h.row hg g1 (len * z) o 0 (by omega)
                exact ⟨ws, by simp only [srcCells]; rw [hx0 hz0]; exact a1, a2⟩
            obtain ⟨old, l1, l2⟩ := hold
            refine ⟨old, l1, fun nc e1' e2' => ?_⟩
            have holen := l2.length
            rw [rowA_length] at holen
            have hD := h.drop d
            have hput : ((A.set d .no).nx) = A.nx := AH.nx_set ..
            have sz : (old.toArray ++ new.toArray ++ Builtin.zeroCells zv.cells (nc - (len + n))).size = nc * z := by
              simp only [Array.size_append, List.size_toArray, zeroCells_size, hzs]
              rw [← holen, ← hnl, hll]
              have : nc * z = (nc - (len + n)) * z + (len + n) * z := by rw [← Nat.add_mul]; congr 1; omega
              omega
            have hnew' := hD.newCells (j := j) (len := (len + n) * z) (t := T) (cs := old.toArray ++ new.toArray ++ Builtin.zeroCells zv.cells (nc - (len + n))) (el := e) (by rw [hput]; exact hj) t1 (by rw [sz]; exact Nat.mul_le_mul_right _ e1') (by
              intro m hm
              rw [t2 m hm, Array.getElem?_append_left (by simp; rw [← holen, ← hnl, hll]; omega)]
              by_cases hlt : m < len * z
              · rw [if_pos hlt, Array.getElem?_append_left (by simp; omega)]
                obtain ⟨w, a1, a2⟩ := l2.get (rowA_get tr (len * z) o m hlt)
                exact ⟨w, by simpa using a1, a2⟩
              · rw [if_neg hlt, Array.getElem?_append_right (by simp; omega)]
                obtain ⟨w, a1, a2⟩ := hl.get (j := m - len * z) (v := l.getD (m - len * z) .u) (by rw [List.getD_eq_getElem?_getD, List.getElem?_eq_getElem (by rw [hll]; omega)]; rfl)
                exact ⟨w, by simpa [← holen] using a1, a2⟩)
            rw [hput] at hnew'
            refine hK _ _ _ _ _ (h.le_put _) hnew' ?_ ka
            simp only [VR]
            refine ⟨_, 0, nc, if_pos rfl, rfl, ⟨Nat.le_refl _, by omega⟩, e1', ?_, fun _ => by simp, fun hh => by cases hh⟩
            rw [sz]; show 0 + nc * z ≤ nc * z ∧ (nc ≠ 0 → 0 + nc * z = nc * z); omega
        · rw [e1] at ka; cases ka
  | nil g =>
    replace hk : ifB (Nat.beq g 1) (ifB (Nat.beq n 0) (k (.nil 1) A) (ifB (Nat.ble n 60000) (growA A l n z k) false)) false = true := hk
    obtain ⟨b1, ka⟩ := ifB_and hk
    have b1 := Nat.eq_of_beq_eq_true b1
    subst b1
    simp only [VR, nilOf] at hq
    subst hq
    cases hn0 : Nat.beq n 0 with
    | true =>
      rw [hn0] at ka
      have hn0 := Nat.eq_of_beq_eq_true hn0
      subst hn0
      refine AG_of (fun _ => ?_) (fun hh => by omega)
      exact hK _ A φ _ H φ.le_refl h (by simp only [VR, nilOf]) ka
    | false =>
      rw [hn0] at ka
      have hn0 := beq_f hn0
      obtain ⟨b2, ka⟩ := ifB_and (show ifB _ _ false = true from ka)
      have b2 := Nat.le_of_ble_eq_true b2
      refine AG_of (fun hh => by omega) (fun hh => ⟨room _ _ (by omega) hh, by omega, [], rfl, fun nc e1 e2 => ?_⟩)
      obtain ⟨v, A', φ', f1, f2, f3, f4⟩ := grow_ok (ws := new) (rest := (Builtin.zeroCells zv.cells (nc - (0 + n))).toList) (el := e) (c := nc) h hl hll (by omega) (by
        simp only [Array.length_toList, zeroCells_size, hzs]
        rw [← hnl, hll]
        have : nc * z = (nc - (0 + n)) * z + n * z := by rw [← Nat.add_mul]; congr 1; omega
        omega) (by omega) ka
      have ea : new.toArray ++ (Builtin.zeroCells zv.cells (nc - (0 + n))).toList.toArray = ([] : List Value).toArray ++ new.toArray ++ Builtin.zeroCells zv.cells (nc - (0 + n)) := by apply Array.ext'; simp
      rw [ea] at f2
      refine hK v A' φ' _ _ f1 f2 ?_ f4
      rw [Nat.zero_add]; exact f3
  | _ => cases hk
theorem appA_ok {q x : AV} {w wx : Value} {t xt e bytes z : Nat} {zv : Value} {d : TypeDesc} {k : AV → AH → Bool} {K : Value → Heap → Prop} (h : Rel σ F φ A H) (hq : VR σ φ q w) (hx : VR σ φ x wx)
    (he : elemT P t = some e) (h1 : sizeT P e = some z) (h2 : bytesT P e = some bytes) (hb : bytes ≤ 1048576) (hz : zeroT P e = some zv) (hzs : zv.cells.size = z) (hd : P.underlying xt = some d) (hdi : ∀ kk, d ≠ .int kk)
    (hK : ∀ v A' φ' w' H', φ.le φ' → Rel σ F φ' A' H' → VR σ φ' v w' → k v A' = true → K w' H') (hk : appA A q x z k = true) : appW P H t xt w wx K := by
  obtain ⟨n, l, new, hn, hnew, hl, hll, hk⟩ := srcK_sound h hx hk
  exact appW_of he h1 h2 hz hn hnew hd hdi (appC_ok h hq hl hll hb hzs hK hk)
end Go.Run
