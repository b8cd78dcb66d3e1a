
/- Closed runs: operations on maps; cells copied and cleared. -/
import Derived.Test.YtndbdehpkiimjaaGreatRunN
namespace Go.Run
open Go.HL
variable {σ : Nat → Value} {F : Nat → Option Obj} {φ : Phi} {A : AH} {H : Heap} {P : Program} {V : HV}
noncomputable section
set_option linter.unusedVariables false

/-! ### What is in a map -/
theorem on_m_sound {p : AV} {w : Value} {k : Id → Bool} (hp : VR σ φ p w) (hk : p.on_m k false = true) : ∃ i e, p = .m i ∧ φ i = some e ∧ w = .map (some e.r) ∧ k i = true := by
  rcases AV.on_m_eq p k false with ⟨i, rfl, e⟩ | e
  · rw [e] at hk
    simp only [VR] at hp
    obtain ⟨x, h1, h2⟩ := hp
    exact ⟨i, x, rfl, h1, h2, hk⟩
  · rw [e] at hk; cases hk
theorem Rel.map (h : Rel σ F φ A H) {i : Id} {e : Ent} (he : φ i = some e) {k : Nat → Nat → MT → Bool} (hk : (A.get i).on_m k false = true) :
    ∃ g n m es c, A.get i = .mp g n m ∧ H[e.r]? = some (.map es c) ∧ MR σ φ g n m es.toList ∧ k g n m = true := by
  rcases AB.on_m_eq (A.get i) k false with ⟨g, n, m, hg, e'⟩ | e'
  · rw [e'] at hk
    have hl := h.liv i
    rw [hg] at hl
    obtain ⟨e2, h1, _, es, c, h3, h4⟩ := hl
    rw [he] at h1
    simp only [Option.some.injEq] at h1
    subst h1
    exact ⟨g, n, m, es, c, hg, h3, h4, hk⟩
  · rw [e'] at hk; cases hk
/-- What is found, or nothing. -/
theorem MR.find {g n : Nat} {m : MT} {es : List MapEntry} (h : MR σ φ g n m es) {k : AV} {w : Value} (hk : keyV k = some w) {yes : AV → Bool} {no : Bool} (hf : findB (bucket k m) k yes no = true) :
    (∃ (x : AV) (e : MapEntry) (j : Nat), es[j]? = some e ∧ e.key = w ∧ VR σ φ x e.val ∧ yes x = true) ∨ ((∀ e ∈ es, e.key ≠ w) ∧ no = true) := by
  rcases findB_ok hk _ (fun e he => h.vk k e he) hf with ⟨x, h1, h2⟩ | ⟨h1, h2⟩
  · obtain ⟨e, h3, h4, h5⟩ := h.real k w x hk h1
    obtain ⟨j, hj⟩ := List.getElem?_of_mem h3
    exact .inl ⟨x, e, j, hj, h4, h5, h2⟩
  · refine .inr ⟨fun e he hw => ?_, h2⟩
    obtain ⟨k', x, h3, _, h5⟩ := h.all e he
    rw [hw] at h3
    have := keyV_inj h3 hk
    subst this
    exact h1 x h5
theorem FND.at {w : Value} {es : List MapEntry} {o : Option (Nat × Value)} (h : FND w es 0 o) (hn : (es.map (·.key)).Nodup) {j : Nat} {e : MapEntry} (hj : es[j]? = some e) (he : e.key = w) : o = some (j, e.val) := by
  rcases h with ⟨_, h⟩ | ⟨i, a, h1, h2, h3⟩
  · exact absurd he (h e (List.mem_of_getElem? hj))
  · have := nodup_at hn h1 hj (by rw [h2, he])
    subst this
    rw [hj] at h1
    simp only [Option.some.injEq] at h1
    subst h1
    rw [h3, Nat.zero_add]
theorem FND.not {w : Value} {es : List MapEntry} {o : Option (Nat × Value)} (h : FND w es 0 o) (hn : ∀ e ∈ es, e.key ≠ w) : o = none := by
  rcases h with ⟨h, _⟩ | ⟨i, a, h1, h2, h3⟩
  · exact h
  · exact absurd h2 (hn a (List.mem_of_getElem? h1))
theorem MR.cls {g n : Nat} {m : MT} {es : List MapEntry} (h : MR σ φ g n m es) : ∀ e ∈ es, ∃ k', keyV k' = some e.key ∧ clsA k' = g := fun e he => let ⟨k, _, h1, h2, _⟩ := h.all e he; ⟨k, h1, h2⟩

def resK (ok : Bool) (x : AV) (b : Bool) (k : AV → Bool) : Bool := @Bool.rec (fun _ => Bool) (k x) (k (.t [x, .b b])) ok
def lokA (A : AH) (g0 : Nat) (mv key : AV) (zero : AV) (ok : Bool) (k : AV → Bool) : Bool :=
  mv.on_m (fun i => (A.get i).on_m (fun g n m => ifB (Nat.beq g g0) (ifB (keyOK g0 key) (findB (bucket key m) key (fun x => resK ok x true k) (resK ok zero false k)) false) false) false) false
theorem resK_ok {ok b : Bool} {x : AV} {w : Value} {k : AV → Bool} (hx : VR σ φ x w) (h : resK ok x b k = true) : ∃ v, VR σ φ v (if ok then .tuple #[w, .bool b] else w) ∧ k v = true := by
  cases ok with
  | true => exact ⟨_, by simp only [VR, if_true]; exact ⟨_, rfl, by simp only [VRl]; exact ⟨w, _, rfl, hx, _, _, rfl, by simp only [VR], rfl⟩⟩, h⟩
  | false => exact ⟨x, hx, h⟩
theorem lokA_ok {t kt et g0 : Nat} {mv key zero : AV} {wm wk z : Value} {ok : Bool} {k : AV → Bool} (h : Rel σ F φ A H) (ht : P.underlying t = some (.map kt et)) (hkc : KC P g0 kt) (hz : zeroT P et = some z) (hzv : VR σ φ zero z)
    (hm : VR σ φ mv wm) (hk : VR σ φ key wk) (hr : lokA A g0 mv key zero ok k = true) : ∃ v r, qrun P (Instr.lookup t wm wk ok) H = some r ∧ VR σ φ v r ∧ k v = true := by
  obtain ⟨i, e, rfl, he, rfl, hr⟩ := on_m_sound hm hr
  obtain ⟨g, n, m, es, c, h1, h2, h3, hr⟩ := h.map he hr
  obtain ⟨hg0, hr1⟩ := ifB_and hr
  clear hr
  have hg0 := Nat.eq_of_beq_eq_true hg0
  subst hg0
  obtain ⟨h4, hr⟩ := ifB_and hr1
  clear hr1
  obtain ⟨h5, h6⟩ := keyOK_ok hk h4
  obtain ⟨o, ho, hf⟩ := findKey_ok (H := H) hkc h5 h6 h3.cls
  have run : ∀ r, (∀ (x : Value) (b : Bool), (o = none ∧ x = z ∧ b = false ∨ ∃ j, o = some (j, x) ∧ b = true) → r = if ok then .tuple #[x, .bool b] else x) → qrun P (Instr.lookup t (.map (some e.r)) wk ok) H = some r := by
    intro r hrr
    unfold Instr.lookup
    rw [qrun_bind', qrun_underlying ht, Option.bind_some]
    simp only
    rw [qrun_bind', qrun_getObj h2, Option.bind_some]
    simp only
    rw [qrun_bind', show qrun P (pure es : Sem (Array MapEntry)) H = some es from rfl, Option.bind_some, qrun_bind', checkKey_ok hkc h5 h6, Option.bind_some, qrun_bind', ho, Option.bind_some]
    cases o with
    | none =>
      simp only
      rw [qrun_bind', qrun_zeroValue hz, Option.bind_some]
      rw [hrr z false (.inl ⟨rfl, rfl, rfl⟩)]
      cases ok <;> rfl
    | some p =>
      obtain ⟨j, x⟩ := p
      rw [hrr x true (.inr ⟨j, rfl, rfl⟩)]
      cases ok <;> rfl
  rcases h3.find h5 hr with ⟨x, a, j, h7, h8, h9, hr⟩ | ⟨h7, hr⟩
  · obtain ⟨v, h10, h11⟩ := resK_ok h9 hr
    refine ⟨v, _, run _ ?_, h10, h11⟩
    have ho := hf.at h3.nodup h7 h8
    rintro x b (⟨h, _⟩ | ⟨j', h, rfl⟩)
    · rw [ho] at h; cases h
    · rw [ho] at h; cases h; rfl
  · obtain ⟨v, h10, h11⟩ := resK_ok hzv hr
    refine ⟨v, _, run _ ?_, h10, h11⟩
    have ho := hf.not h7
    rintro x b (⟨h, rfl, rfl⟩ | ⟨j', h, rfl⟩)
    · rfl
    · rw [ho] at h; cases h

/-! ### A map written -/
def mupA (A : AH) (g0 : Nat) (mv key x : AV) (k : AH → Bool) : Bool :=
  mv.on_m (fun i => (A.get i).on_m (fun g n m => ifB (Nat.beq g g0) (ifB (keyOK g0 key) (findB (bucket key m) key (fun _ => k (A.set i (.mp g n (updB (hashA key) (setK key x) m)))) (frc (Nat.succ n) fun n => k (A.set i (.mp g n (updB (hashA key) (fun l => (key, x) :: l) m))))) false) false) false) false
theorem sameBits_key {k : AV} {w : Value} (hk : keyV k = some w) : Instr.sameBits 10000 w w = true := by
  rcases keyV_forms hk with ⟨x, rfl, hx, rfl⟩ | ⟨x, rfl, hx, rfl⟩ | ⟨l, rfl, hl, rfl⟩ | ⟨x, y, rfl, rfl⟩ <;> simp [Instr.sameBits]
  rw [ba_beq]; simp
theorem mupA_ok {t kt et g0 : Nat} {mv key x : AV} {wm wk wx : Value} {k : AH → Bool} {Q : Unit → Heap → Prop} {E : Value → Heap → Prop} (h : Rel σ F φ A H) (ht : P.underlying t = some (.map kt et)) (hkc : KC P g0 kt)
    (hm : VR σ φ mv wm) (hk : VR σ φ key wk) (hx : VR σ φ x wx) (hQ : ∀ A' H', Rel σ F φ A' H' → k A' = true → Q () H') (hr : mupA A g0 mv key x k = true) : hwp P (Instr.mapUpdate t wm wk wx) H Q E := by
  obtain ⟨i, e, rfl, he, rfl, hr⟩ := on_m_sound hm hr
  obtain ⟨g, n, m, es, c, h1, h2, h3, hr⟩ := h.map he hr
  obtain ⟨hg0, hr1⟩ := ifB_and hr
  clear hr
  have hg0 := Nat.eq_of_beq_eq_true hg0
  subst hg0
  obtain ⟨h4, hr⟩ := ifB_and hr1
  clear hr1
  obtain ⟨h5, h6⟩ := keyOK_ok hk h4
  obtain ⟨o, ho, hf⟩ := findKey_ok (H := H) hkc h5 h6 h3.cls
  unfold Instr.mapUpdate
  refine hwp_qbind (qrun_underlying ht H) ?_
  simp only
  refine hwp_qbind (qrun_getObj h2) ?_
  simp only
  refine hwp_qbind (checkKey_ok hkc h5 h6) ?_
  refine hwp_qbind ho ?_
  rcases h3.find h5 hr with ⟨_, a, j, h7, h8, _, hr⟩ | ⟨h7, hr⟩
  · have ho := hf.at h3.nodup h7 h8
    subst ho
    have ek : (((es[j]?).map (·.key)).getD wk) = wk := by
      rw [← Array.getElem?_toList, h7]; simp [h8]
    have hs : qrun P (Instr.keyThatStays (((es[j]?).map (·.key)).getD wk) wk) H = some wk := by
      rw [ek]
      unfold Instr.keyThatStays
      rw [sameBits_key h5]
      rfl
    refine hwp_qbind hs ?_
    show hwp P (setObj e.r (.map (es.modify j fun e => { e with key := wk, val := wx }) c)) H _ _
    simp only [setObj, hwp, h2]
    refine hQ _ _ (h.setMap (n' := n) (m' := updB (hashA key) (setK key x) m) h1 he ?_) hr
    rw [Array.toList_modify]
    exact h3.put_old h5 h6 h7 h8 hx
  · have ho := hf.not h7
    subst ho
    rw [frc_eq] at hr
    show hwp P (setObj e.r (.map (es.push { key := wk, val := wx, born := c }) (c + 1))) H _ _
    simp only [setObj, hwp, h2]
    refine hQ _ _ (h.setMap (n' := n + 1) (m' := updB (hashA key) (fun l => (key, x) :: l) m) h1 he ?_) hr
    rw [Array.toList_push]
    exact h3.put_new h5 h6 h7 hx
def mdlA (A : AH) (g0 : Nat) (mv key : AV) (k : AH → Bool) : Bool :=
  mv.on_m (fun i => (A.get i).on_m (fun g n m => ifB (Nat.beq g g0) (ifB (keyOK g0 key) (findB (bucket key m) key (fun _ => frc (Nat.sub n 1) fun n => k (A.set i (.mp g n (updB (hashA key) (delK key) m)))) (k A)) false) false) false) false
theorem mdlA_ok {t kt et ty g0 : Nat} {mv key : AV} {wm wk : Value} {k : AH → Bool} {Q : Value → Heap → Prop} {E : Value → Heap → Prop} (h : Rel σ F φ A H) (ht : P.underlying t = some (.map kt et)) (hkc : KC P g0 kt)
    (hm : VR σ φ mv wm) (hk : VR σ φ key wk) (hQ : ∀ A' H', Rel σ F φ A' H' → k A' = true → Q undef H') (hr : mdlA A g0 mv key k = true) {t2 : Nat} : hwp P (Builtin.delete_ #[t, t2] ty #[wm, wk]) H Q E := by
  obtain ⟨i, e, rfl, he, rfl, hr⟩ := on_m_sound hm hr
  obtain ⟨g, n, m, es, c, h1, h2, h3, hr⟩ := h.map he hr
  obtain ⟨hg0, hr1⟩ := ifB_and hr
  clear hr
  have hg0 := Nat.eq_of_beq_eq_true hg0
  subst hg0
  obtain ⟨h4, hr⟩ := ifB_and hr1
  clear hr1
  obtain ⟨h5, h6⟩ := keyOK_ok hk h4
  obtain ⟨o, ho, hf⟩ := findKey_ok (H := H) hkc h5 h6 h3.cls
  unfold Builtin.delete_
  simp only [List.getElem?_toArray, List.getElem?_cons_zero, List.getElem?_cons_succ]
  refine hwp_qbind (qrun_underlying ht H) ?_
  simp only
  refine hwp_qbind (qrun_getObj h2) ?_
  simp only
  refine hwp_qbind (checkKey_ok hkc h5 h6) ?_
  refine hwp_qbind ho ?_
  rcases h3.find h5 hr with ⟨_, a, j, h7, h8, _, hr⟩ | ⟨h7, hr⟩
  · have ho := hf.at h3.nodup h7 h8
    subst ho
    rw [frc_eq] at hr
    show hwp P (do setObj e.r (.map (es.eraseIdxIfInBounds j) c); pure (Value.tuple #[])) H _ _
    rw [hwp_bind']
    simp only [setObj, hwp, h2]
    refine hQ _ _ (h.setMap (n' := n - 1) (m' := updB (hashA key) (delK key) m) h1 he ?_) hr
    have hjl := (List.getElem?_eq_some_iff.1 h7).1
    have e1 : (es.eraseIdxIfInBounds j).toList = es.toList.eraseIdx j := by
      unfold Array.eraseIdxIfInBounds
      rw [dif_pos (by simpa using hjl)]
      simp
    rw [e1]
    exact h3.del h5 h6 h7 h8
  · have ho := hf.not h7
    subst ho
    show hwp P (do setObj e.r (.map es c); pure (Value.tuple #[])) H _ _
    rw [hwp_bind']
    simp only [setObj, hwp, h2]
    have e1 : H.setIfInBounds e.r (.map es c) = H := by
      apply Array.ext_getElem?
      intro r
      rw [Array.getElem?_setIfInBounds]
      split
      · rename_i hr'; subst hr'
        split
        · exact h2.symm
        · rename_i hlt; rw [Array.getElem?_eq_none (by omega)] 
      · rfl
    rw [e1]
    exact hQ _ _ h hr
def mkmA (A : AH) (g : Nat) (k : AV → AH → Bool) : Bool := newB A (.mp g 0 (all16 (all16 []))) fun i A => k (.m i) A
theorem mkmA_ok {g : Nat} {k : AV → AH → Bool} (h : Rel σ F φ A H) (hr : mkmA A g k = true) : ∃ v A' φ', φ.le φ' ∧ Rel σ F φ' A' (H.push (.map #[] 0)) ∧ VR σ φ' v (.map (some H.size)) ∧ k v A' = true := by
  obtain ⟨j, hj, hk⟩ := newB_sound hr
  refine ⟨.m A.nx, _, φ.put A.nx ⟨H.size, 0, 0⟩, h.le_put ⟨H.size, 0, 0⟩, h.new hj rfl ?_, by simp only [VR]; exact ⟨⟨H.size, 0, 0⟩, by simp [Phi.put], rfl⟩, hk⟩
  refine ⟨⟨H.size, 0, 0⟩, by simp [Phi.put], h.free, #[], 0, by simp, ?_⟩
  have hb : ∀ k, bucket k (all16 (all16 [])) = [] := by intro k; unfold bucket bktH; rw [selN_eq, selN_eq, sel_all, sel_all]
  exact ⟨rfl, by simp, fun k w x _ hm => by rw [hb] at hm; simp at hm, fun e he => by simp at he, fun k e he => by rw [hb] at he; simp at he⟩
def lenM (A : AH) (mv : AV) (k : AV → Bool) : Bool := mv.on_m (fun i => (A.get i).on_m (fun g n m => ifB (Nat.blt n 9223372036854775808) (k (.n n)) false) false) false
theorem lenM_ok {t kt et : Nat} {mv : AV} {wm : Value} {k : AV → Bool} (h : Rel σ F φ A H) (ht : P.underlying t = some (.map kt et)) (hm : VR σ φ mv wm) (hr : lenM A mv k = true) : ∃ v r, lenV P (full H) t wm = some r ∧ VR σ φ v r ∧ k v = true := by
  obtain ⟨i, e, rfl, he, rfl, hr⟩ := on_m_sound hm hr
  obtain ⟨g, n, m, es, c, h1, h2, h3, hr⟩ := h.map he hr
  obtain ⟨h4, hr⟩ := ifB_and hr
  have h4 := blt_t h4
  refine ⟨.n n, .int .i64 n, ?_, by simp only [VR, true_and]; omega, hr⟩
  have := len_map (P := P) (H := H) (t := t) (kvs := es.toList.map fun e => (e.key, e.val)) ht ⟨es, c, h2, rfl⟩
  rw [this]
  simp only [List.length_map]
  rw [h3.size]
end
end Go.Run
