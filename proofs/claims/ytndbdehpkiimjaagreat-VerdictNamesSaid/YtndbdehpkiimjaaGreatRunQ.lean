
/- Closed runs: every operation that looks. -/
import Derived.Test.YtndbdehpkiimjaaGreatRunP
namespace Go.Run
open Go.HL
variable {σ : Nat → Value} {F : Nat → Option Obj} {φ : Phi} {A : AH} {H : Heap} {P : Program} {V : HV}
noncomputable section
set_option linter.unusedVariables false

/-! ### Bytes to a text -/
def bytesL (l : List AV) (k : List Nat → Bool) : Bool := @List.rec AV (fun _ => (List Nat → Bool) → Bool) (fun k => k [])
  (fun v _ ih k => v.on_z (fun g x => ifB (Nat.beq (kindN g) (kindN .u8)) (@Int.rec (fun _ => Bool) (fun n => ifB (Nat.blt n 256) (ih fun r => k (n :: r)) false) (fun _ => false) x) false) false) l k
theorem bytesL_ok : ∀ (l : List AV) (ws : List Value) (k : List Nat → Bool), VRl σ φ l ws → bytesL l k = true → ∃ r, k r = true ∧ (∀ x ∈ r, x < 256) ∧ ws = r.map (fun (x : Nat) => Value.int .u8 x)
  | [], ws, k, h, hk => by simp only [VRl] at h; subst h; exact ⟨[], hk, by simp, rfl⟩
  | v :: l, ws, k, h, hk => by
    simp only [VRl] at h
    obtain ⟨w, ws', rfl, h1, h2⟩ := h
    cases v with
    | z g x =>
      replace hk : ifB (Nat.beq (kindN g) (kindN .u8)) (@Int.rec (fun _ => Bool) (fun n => ifB (Nat.blt n 256) (bytesL l fun r => k (n :: r)) false) (fun _ => false) x) false = true := hk
      obtain ⟨g1, g2⟩ := ifB_and hk
      clear hk
      have := kindN_inj g1
      subst this
      cases x with
      | ofNat n =>
        obtain ⟨g3, g4⟩ := ifB_and (show ifB (Nat.blt n 256) (bytesL l fun r => k (n :: r)) false = true from g2)
        obtain ⟨r, h3, h4, h5⟩ := bytesL_ok l ws' _ h2 g4
        simp only [VR] at h1
        subst h1
        refine ⟨n :: r, h3, ?_, by rw [h5]; rfl⟩
        intro x hx
        rcases List.mem_cons.1 hx with rfl | hx
        · exact blt_t g3
        · exact h4 x hx
      | negSucc n => cases g2
    | _ => cases hk
def strC (A : AH) (x : AV) (k : AV → Bool) : Bool := x.on_q (fun _ _ len _ _ _ => srcN A x 1 len fun l => bytesL l fun r => k (.s r)) (nilS x (k (.s [])))
theorem qrun_push {f : Value → ByteArray → Sem (ForInStep ByteArray)} (hf : ∀ (x : Nat) s, f (.int .u8 x) s = pure (ForInStep.yield (s.push (UInt8.ofNat x)))) : ∀ (r : List Nat) (s : ByteArray),
    qrun P (forIn (m := Sem) (r.map fun (x : Nat) => Value.int .u8 x) s f) H = some ⟨s.data ++ (r.map UInt8.ofNat).toArray⟩
  | [], s => by simp [pure, qrun]
  | x :: r, s => by
    rw [List.map_cons, List.forIn_cons, hf]
    show qrun P (forIn (m := Sem) (r.map fun (x : Nat) => Value.int .u8 x) (s.push (UInt8.ofNat x)) _) H = _
    rw [qrun_push hf r (s.push (UInt8.ofNat x))]
    congr 2
    apply Array.ext'
    simp [ByteArray.push]
theorem strC_ok {s d e : Nat} {x : AV} {w : Value} {k : AV → Bool} (h : Rel σ F φ A H) (hs : P.underlying s = some (.slice e)) (he : P.underlying e = some (.int .u8)) (hd : P.underlying d = some .string) (hx : VR σ φ x w) (hk : strC A x k = true) :
    ∃ v r, convV P (full H) s d w = some r ∧ VR σ φ v r ∧ k v = true := by
  have go : ∀ r : List Nat, qrun P (Conv.bytesToString w) H = some (.string (strOf r)) → (∀ b n c, w = .slice b n c → convV P (full H) s d w = some (.string (strOf r))) := by
    rintro r hr b n c rfl
    show qrun P (convert s d _) H = _
    unfold convert
    rw [qrun_bind', qrun_underlying hs, Option.bind_some, qrun_bind', qrun_underlying hd, Option.bind_some]
    show qrun P (do match ← underlying e with
      | .int .u8 => Conv.bytesToString (.slice b n c)
      | .int .i32 => Conv.runesToString (.slice b n c)
      | _ => stuck "Convert: a slice of what to string?") H = _
    rw [qrun_bind', qrun_underlying he, Option.bind_some]
    exact hr
  unfold strC at hk
  rcases AV.on_q_eq x (fun _ _ len _ _ _ => srcN A x 1 len fun l => bytesL l fun r => k (.s r)) (nilS x (k (.s []))) with ⟨i, o, len, cap, z, ex, rfl, e'⟩ | e'
  · rw [e'] at hk
    have hx0 := hx
    simp only [VR] at hx
    obtain ⟨en, y, c', g1, rfl, g3, g4, g5, g6, g7⟩ := hx
    obtain ⟨l, ws, h1, h2, h3, hk⟩ := srcN_ok h hx0 (Nat.le_refl _) hk
    obtain ⟨r, h4, h5, h6⟩ := bytesL_ok l ws _ h2 hk
    refine ⟨_, _, go r ?_ _ _ _ rfl, VR_str h5, h4⟩
    unfold Conv.bytesToString
    simp only
    have hl : qrun P (loadCells ⟨en.r, y, none⟩ len) H = some ws.toArray := by
      have := qrun_firstCells (P := P) h1
      rw [show Builtin.firstCells 1 len (.slice (some ⟨en.r, y, none⟩) len c') = loadCells ⟨en.r, y, none⟩ (len * 1) from rfl, Nat.mul_one] at this
      exact this
    rw [qrun_bind', hl, Option.bind_some, qrun_bind', List.forIn_toArray, h6]
    rw [qrun_push (P := P) (H := H) (fun x s => by simp) r ByteArray.empty]
    show some (Value.string ⟨#[] ++ (r.map UInt8.ofNat).toArray⟩) = some (Value.string ⟨(r.map UInt8.ofNat).toArray⟩)
    simp
  · rw [e'] at hk
    obtain ⟨rfl, hk⟩ := nilS_ok hx hk
    exact ⟨_, _, go [] rfl _ _ _ rfl, VR_str (by simp), hk⟩
/-- An element of an array that is a value. -/
def idxV (a i : AV) (n : Nat) (k : AV → Bool) : Bool := a.on_a (fun l => idx i fun j => ifB (Nat.blt j n) (nthK l j k) false) false
theorem idxV_ok {t n e : Nat} {j : TI} {a i : AV} {wa wi : Value} {k : AV → Bool} (ht : P.underlying t = some (.array n e)) (hj : TIok P e j) (hz : j.size = 1) (hg : aggK j.k = false) (ha : VR σ φ a wa) (hi : VR σ φ i wi) (hk : idxV a i n k = true) :
    ∃ v r, indexV P t wa wi = some r ∧ VR σ φ v r ∧ k v = true := by
  obtain ⟨l, c, rfl, rfl, hc, hk⟩ := on_a_sound ha hk
  obtain ⟨g, m, rfl, hk⟩ := idx_sound hi hk
  obtain ⟨h1, hk⟩ := ifB_and hk
  have h1 := blt_t h1
  obtain ⟨v, h2, h3⟩ := nthK_sound hk
  obtain ⟨r, h4, h5⟩ := hc.get h2
  refine ⟨v, r, ?_, h5, h3⟩
  have hat : arrT P t = some (n, e) := by simp [arrT, ht]
  simp only [indexV, hat, Option.bind_some, hj.size, hz]
  rw [chk_pos (by omega)]
  unfold partV
  rw [aggN_of hj, hg]
  simpa using h4

/-! ### All of them -/
/-- The class of a map's keys. -/
abbrev keyC (T : TR) (t : Nat) (k : Nat → Bool) : Bool := withT T t fun i => match i.k with
  | .int .i64 => k 0
  | .str => k 1
  | .struct => @Bool.rec (fun _ => Bool) false (k 2) (match i.eqk, i.flds with
    | some [(0, 0), (1, 0)], [_, _] => true
    | _, _ => false)
  | _ => false
theorem keyC_ok {T : TR} (hT : TTok P T) {t : Nat} {k : Nat → Bool} (h : keyC T t k = true) : ∃ g, KC P g t ∧ k g = true := by
  obtain ⟨i, hi, h⟩ := withT_ok hT h
  obtain ⟨d, hu, hd⟩ := hi.kind
  split at h
  · rename_i hk
    have : d = .int .i64 := by rw [hk] at hd; cases d <;> simp [kindOf] at hd; subst hd; rfl
    subst this
    exact ⟨0, hu, h⟩
  · rename_i hk
    exact ⟨1, str_of hu (hd.trans hk), h⟩
  · rename_i hk
    split at h
    · rename_i he hf
      refine ⟨2, ?_, h⟩
      have he' := hi.eqk
      rw [he] at he'
      have hf' := hi.flds
      rw [hf] at hf'
      unfold eqInfo at he'
      split at he'
      · rename_i fs hfs
        split at he'
        · cases he'
        · rename_i hs
          simp only [Bool.or_eq_true, not_or, Bool.not_eq_true] at hs
          unfold fieldL at hf'
          rw [hfs] at hf'
          simp only at hf'
          obtain ⟨l⟩ := fs
          match l, hf', he', hfs with
          | [], hf', _, _ => simp at hf'
          | [_], hf', _, _ => simp at hf'
          | _ :: _ :: _ :: _, hf', _, _ => simp at hf'
          | [f0, f1], hf', he', hfs =>
            simp only [eqkOf] at he'
            have kk : ∀ t, kindE P t = some 0 → P.underlying t = some (.int .i64) := by
              intro t ht
              unfold kindE at ht
              split at ht
              · assumption
              · cases ht
              · cases ht
              · cases ht
              · cases ht
            by_cases n0 : f0.name = "_"
            · rw [if_pos n0] at he'
              by_cases n1 : f1.name = "_"
              · rw [if_pos n1] at he'; simp at he'
              · rw [if_neg n1] at he'; cases hq : kindE P f1.type <;> simp [hq] at he'
            · rw [if_neg n0] at he'
              by_cases n1 : f1.name = "_"
              · rw [if_pos n1] at he'; cases hq : kindE P f0.type <;> simp [hq] at he'
              · rw [if_neg n1] at he'
                cases q0 : kindE P f0.type with
                | none => simp [q0] at he'
                | some k0 =>
                  cases q1 : kindE P f1.type with
                  | none => simp [q0, q1] at he'
                  | some k1 =>
                    simp [q0, q1] at he'
                    obtain ⟨⟨o0, rfl⟩, o1, rfl⟩ := he'
                    exact ⟨⟨f0, f1, _, _, hfs, n0, n1, o0, o1, rfl, rfl, kk _ q0, kk _ q1⟩, hs.1⟩
      · cases he'
    · cases h
  · cases h
theorem keyC_cls {T : TR} (hT : TTok P T) {t g g' : Nat} (h : KC P g t) (h' : KC P g' t) : g = g' := by
  match g, g', h, h' with
  | 0, 0, _, _ => rfl
  | 1, 1, _, _ => rfl
  | 2, 2, _, _ => rfl
  | 0, 1, h, h' => exact absurd (h.symm.trans h') (by simp)
  | 1, 0, h, h' => exact absurd (h.symm.trans h') (by simp)
  | 0, 2, h, h' => obtain ⟨f0, f1, t0, t1, hu, _⟩ := PairT.un h'; exact absurd (Eq.symm h |>.trans hu) (by simp)
  | 1, 2, h, h' => obtain ⟨f0, f1, t0, t1, hu, _⟩ := PairT.un h'; exact absurd (Eq.symm h |>.trans hu) (by simp)
  | 2, 0, h, h' => obtain ⟨f0, f1, t0, t1, hu, _⟩ := PairT.un h; exact absurd (Eq.symm h' |>.trans hu) (by simp)
  | 2, 1, h, h' => obtain ⟨f0, f1, t0, t1, hu, _⟩ := PairT.un h; exact absurd (Eq.symm h' |>.trans hu) (by simp)
end
end Go.Run
