
/- Closed runs: regions that draw: operations that act. -/
import Derived.Test.YtndbdehpkiimjaaGreatRunS
namespace Go.Run
open Go.HL
variable {σ : Nat → Value} {F : Nat → Option Obj} {φ : Phi} {A : AH} {H : Heap} {P : Program} {V : HV}
noncomputable section
set_option linter.unusedVariables false

abbrev dApp (T : TR) (ρ : Nat → AV) (A : AH) (args : List Operand) (ats : List TypeId) (k : AV → AH → Bool) : Bool :=
  match args, ats with
  | [s, x], [t, xt] => withT T t fun i => withT T xt fun j => match i.k, j.k with
    | .slice e, .slice _ => withT T e fun l => @Bool.rec (fun _ => Bool) false (appA A (ev ρ s) (ev ρ x) l.size k) (Nat.ble l.bytes 1048576)
    | .slice e, .str => withT T e fun l => @Bool.rec (fun _ => Bool) false (appA A (ev ρ s) (ev ρ x) l.size k) (Nat.ble l.bytes 1048576)
    | _, _ => false
  | _, _ => false
abbrev dA (T : TR) (Tb : FT) (ρ : Nat → AV) (A : AH) (op : Op) (k : AV → AH → Bool) : Bool :=
  match op with
  | .store t p x => withT T t fun i => stA A (ev ρ p) (ev ρ x) i.size fun A => k undA A
  | .alloc t => withT T t fun i => allA A i.zero k
  | .box t x => boxA A (ev ρ x) k
  | .makeSlice t l c => withT T t fun i => match i.k with
    | .slice e => withT T e fun j => makA A j (ev ρ l) (ev ρ c) k
    | _ => false
  | .buildSlice t len parts => withT T t fun i => match i.k with
    | .slice e => withT T e fun j => partsR ρ j.size parts.toList fun l => bslA A j len l k
    | _ => false
  | .mapUpdate t m key x => withT T t fun i => match i.k with
    | .map kt _ => keyC T kt fun g => mupA A g (ev ρ m) (ev ρ key) (ev ρ x) fun A => k undA A
    | _ => false
  | .insert t m key x => withT T t fun i => match i.k with
    | .map kt _ => keyC T kt fun g => mupA A g (ev ρ m) (ev ρ key) (ev ρ x) fun A => k undA A
    | _ => false
  | .call ⟨.value f, args, _⟩ => eCall Tb ρ A f args.toList k
  | .call ⟨.builtin .append, args, ats⟩ => dApp T ρ A args.toList ats.toList k
  | _ => false

section
variable {T : TR} {Tb : FT} {ρ : Nat → AV} {e : En} {k : AV → AH → Bool} {n : Nat} {K : En → Heap → Prop} {Q : Exit → En → Heap → Prop}
theorem dA_ok (hT : TTok P T) (hTb : TOK P Tb) (hr : Rel σ F φ A H) (he : ER σ φ ρ e) {o : Oper} (h : dA T Tb ρ A o.op k = true) (hk : After σ F φ k fun w H' => K (e.put n o.dst w) H') : opV n P o e H K Q := by
  obtain ⟨dst, op, type, pos, after, guard⟩ := o
  simp only at h hk
  unfold dA at h
  split at h
  · rename_i t p x
    obtain ⟨i, hi, h⟩ := withT_ok hT h
    obtain ⟨a, A', H', h1, h2, h3, h4⟩ := stA_ok hi.size hr (ev_ok he p) (ev_ok he x) h
    show ptrW (e.ev p) _
    rw [h1]
    show withV (e.ev x) fun v => someW (storeA P H t a v) _
    show someW (storeA P H t a (e.ev x)) _
    rw [h2]
    exact hk undA A' φ undef H' φ.le_refl h3 VR_und h4
  · rename_i t
    obtain ⟨i, hi, h⟩ := withT_ok hT h
    obtain ⟨z, hz, hzs, hv⟩ := hi.zer
    obtain ⟨v, A', φ', h1, h2, h3, h4⟩ := allA_ok (el := t) hr (hv σ φ) h
    show someW (zeroT P t) _
    rw [hz]
    exact hk v A' φ' _ _ h1 h2 h3 h4
  · rename_i t x
    obtain ⟨v, A', φ', h1, h2, h3, h4⟩ := boxA_ok (el := t) hr (ev_ok he x) h
    exact (hk v A' φ' _ _ h1 h2 h3 h4)
  · rename_i t l c
    obtain ⟨i, hi, h⟩ := withT_ok hT h
    obtain ⟨d, hu, hd⟩ := hi.kind
    split at h
    · rename_i el hkk
      obtain ⟨j, hj, h⟩ := withT_ok hT h
      obtain ⟨r, h1, v, A', φ', h2, h3, h4, h5⟩ := makA_ok hr (elemS_of hu (hd.trans hkk) hj).2.2 hj (ev_ok he l) (ev_ok he c) h
      show someW (makeV P H t (e.ev l) (e.ev c)) _
      rw [h1]
      exact hk v A' φ' _ _ h2 h3 h4 h5
    · cases h
  · rename_i t len parts
    obtain ⟨i, hi, h⟩ := withT_ok hT h
    obtain ⟨d, hu, hd⟩ := hi.kind
    split at h
    · rename_i el hkk
      obtain ⟨j, hj, h⟩ := withT_ok hT h
      obtain ⟨l, h1, h2, h⟩ := partsR_ok he _ _ h
      obtain ⟨r, h3, v, A', φ', h4, h5, h6, h7⟩ := bslA_ok hr (elemS_of hu (hd.trans hkk) hj).2.2 hj h1 h2 h
      show someW (buildSliceV P H t len (parts.toList.map fun p => (p.1, e.ev p.2))) _
      rw [h3]
      exact hk v A' φ' _ _ h4 h5 h6 h7
    · cases h
  · rename_i t m key x
    obtain ⟨i, hi, h⟩ := withT_ok hT h
    obtain ⟨d, hu, hd⟩ := hi.kind
    split at h
    · rename_i kt et hkk
      obtain ⟨g, hg, h⟩ := keyC_ok hT h
      exact mupA_ok hr (map_of hu (hd.trans hkk)) hg (ev_ok he m) (ev_ok he key) (ev_ok he x) (fun A' H' h1 h2 => hk undA A' φ undef H' φ.le_refl h1 VR_und h2) h
    · cases h
  · rename_i t m key x
    obtain ⟨i, hi, h⟩ := withT_ok hT h
    obtain ⟨d, hu, hd⟩ := hi.kind
    split at h
    · rename_i kt et hkk
      obtain ⟨g, hg, h⟩ := keyC_ok hT h
      exact mupA_ok hr (map_of hu (hd.trans hkk)) hg (ev_ok he m) (ev_ok he key) (ev_ok he x) (fun A' H' h1 h2 => hk undA A' φ undef H' φ.le_refl h1 VR_und h2) h
    · cases h
  · exact (eCall_ok hTb hr he h hk)
  · rename_i args ats
    unfold dApp at h
    split at h
    · rename_i s x t xt ha hat
      obtain ⟨i, hi, h⟩ := withT_ok hT h
      obtain ⟨j, hj, h⟩ := withT_ok hT h
      obtain ⟨d1, hu1, hd1⟩ := hi.kind
      obtain ⟨d2, hu2, hd2⟩ := hj.kind
      have reg : ∀ {el : Nat} {l : TI} (hl : TIok P el l) (he1 : elemT P t = some el) (hdi : ∀ kk, d2 ≠ .int kk), @Bool.rec (fun _ => Bool) false (appA A (ev ρ s) (ev ρ x) l.size k) (Nat.ble l.bytes 1048576) = true →
          opV n P ⟨dst, .call ⟨.builtin .append, args, ats⟩, type, pos, after, guard⟩ e H K Q := by
        intro el l hl he1 hdi h
        obtain ⟨hb, h⟩ := bool_t h
        obtain ⟨z, hz, hzs, _⟩ := hl.zer
        have key : appW P H t xt (e.ev s) (e.ev x) (fun v H' => K (e.put n dst v) H') := appA_ok hr (ev_ok he s) (ev_ok he x) he1 hl.size hl.bytes (Nat.le_of_ble_eq_true hb) hz hzs hu2 hdi hk h
        have e1 : ats = #[t, xt] := by apply Array.ext'; simp [hat]
        have e2 : args = #[s, x] := by apply Array.ext'; simp [ha]
        clear h hk hu2 hat ha
        subst e1 e2
        exact key
      split at h
      · rename_i el el' h1 h2
        obtain ⟨l, hl, h⟩ := withT_ok hT h
        exact reg hl (elemS_of hu1 (hd1.trans h1) hl).2.1 (by rintro kk rfl; rw [h2] at hd2; cases hd2) h
      · rename_i el h1 h2
        obtain ⟨l, hl, h⟩ := withT_ok hT h
        exact reg hl (elemS_of hu1 (hd1.trans h1) hl).2.1 (by rintro kk rfl; rw [h2] at hd2; cases hd2) h
      · cases h
    · cases h
  · cases h
end
end
end Go.Run
