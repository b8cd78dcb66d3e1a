
/- Closed runs: every operation, by its form. -/
import Derived.Test.YtndbdehpkiimjaaGreatRunQ
namespace Go.Run
open Go.HL
variable {σ : Nat → Value} {F : Nat → Option Obj} {φ : Phi} {A : AH} {H : Heap} {P : Program} {V : HV}
noncomputable section
set_option linter.unusedVariables false

/-! ### Operations that look -/
abbrev qBin (T : TR) (ρ : Nat → AV) (op : BinOp) (t : Nat) (x y : Operand) (k : AV → Bool) : Bool := withT T t fun i =>
  match i.eqk, op with
  | some l, .eql => strE l false (ev ρ x) (ev ρ y) k
  | some l, .neq => strE l true (ev ρ x) (ev ρ y) k
  | _, op => binA op i.k x y (ev ρ x) (ev ρ y) k
abbrev qUn (ρ : Nat → AV) (op : UnOp) (x : Operand) (k : AV → Bool) : Bool :=
  match op with
  | .not => notA (ev ρ x) k
  | .neg => negA (ev ρ x) k
  | _ => false
abbrev qConv (T : TR) (ρ : Nat → AV) (A : AH) (s d : Nat) (x : Operand) (k : AV → Bool) : Bool := withT T s fun i => withT T d fun j =>
  match i.k, j.k with
  | .int _, .int g => convA g (ev ρ x) k
  | .slice e, .str => withT T e fun l => match l.k with
    | .int .u8 => strC A (ev ρ x) k
    | _ => false
  | _, _ => false
abbrev qIface (T : TR) (ρ : Nat → AV) (t : Nat) (x : Operand) (k : AV → Bool) : Bool := withT T t fun i =>
  match i.k with
  | .iface => false
  | _ => k (.i t (ev ρ x))
abbrev qFunc (ρ : Nat → AV) (fn : Fn) (first captured : Array Operand) (k : AV → Bool) : Bool :=
  match fn with
  | .func f => k (.f f (first.toList.map (ev ρ)) (captured.toList.map (ev ρ)))
  | _ => false
abbrev qFld (T : TR) (ρ : Nat → AV) (s : Nat) (x : Operand) (f : Nat) (k : AV → Bool) : Bool := withT T s fun i => nthF i.flds f fun d ft => withT T ft fun j => @Bool.rec (fun _ => Bool) (fldP (ev ρ x) d k) false (Nat.beq j.size 0)
abbrev qFldV (T : TR) (ρ : Nat → AV) (s : Nat) (x : Operand) (f : Nat) (k : AV → Bool) : Bool := withT T s fun i => nthF i.flds f fun d ft => withT T ft fun j => @Bool.rec (fun _ => Bool) (fldA (ev ρ x) d k) (fldB (ev ρ x) d j.size k) (aggK j.k)
abbrev qIdx (T : TR) (ρ : Nat → AV) (t : Nat) (x y : Operand) (k : AV → Bool) : Bool := withT T t fun i =>
  match i.k with
  | .slice e => withT T e fun j => idxP (ev ρ x) j.size (ev ρ y) k
  | .arr n e => withT T e fun j => idxR (ev ρ x) n j.size (ev ρ y) k
  | _ => false
abbrev qIdxV (T : TR) (ρ : Nat → AV) (t : Nat) (x y : Operand) (k : AV → Bool) : Bool := withT T t fun i =>
  match i.k with
  | .str => sidx (ev ρ x) (ev ρ y) k
  | .arr n e => withT T e fun j => @Bool.rec (fun _ => Bool) false (@Bool.rec (fun _ => Bool) (idxV (ev ρ x) (ev ρ y) n k) false (aggK j.k)) (Nat.beq j.size 1)
  | _ => false
abbrev qLook (T : TR) (ρ : Nat → AV) (A : AH) (t : Nat) (m key : Operand) (ok : Bool) (k : AV → Bool) : Bool := withT T t fun i =>
  match i.k with
  | .map kt et => keyC T kt fun g => withT T et fun j => lokA A g (ev ρ m) (ev ρ key) j.zv ok k
  | _ => false
abbrev qBuild (T : TR) (ρ : Nat → AV) (t : Nat) (parts : Array (Nat × Operand)) (k : AV → Bool) : Bool := withT T t fun i =>
  match i.pl, i.k with
  | some pl, _ => partsA ρ pl parts.toList fun l => bldA i.zero l k
  | none, .arr n e => withT T e fun j => partsR ρ j.size parts.toList fun l => bldA i.zero l k
  | _, _ => false
abbrev qLen (T : TR) (ρ : Nat → AV) (A : AH) (t : Nat) (x : Operand) (k : AV → Bool) : Bool := withT T t fun i =>
  match i.k with
  | .slice _ => lenA (ev ρ x) k
  | .str => slen (ev ρ x) k
  | .map _ _ => lenM A (ev ρ x) k
  | _ => false
abbrev qBlt (T : TR) (ρ : Nat → AV) (A : AH) (b : Builtin) (args : List Operand) (ats : List TypeId) (k : AV → Bool) : Bool :=
  match b, args, ats with
  | .len, [x], [t] => qLen T ρ A t x k
  | .max, [x, y], _ => maxA (ev ρ x) (ev ρ y) k
  | .min, [x, y], _ => minA (ev ρ x) (ev ρ y) k
  | _, _, _ => false
abbrev qA (T : TR) (ρ : Nat → AV) (A : AH) (op : Op) (k : AV → Bool) : Bool :=
  match op with
  | .move x => k (ev ρ x)
  | .assign x => k (ev ρ x)
  | .pick c a b => pickA (ev ρ c) (ev ρ a) (ev ρ b) k
  | .load t p => ldT T A t (ev ρ p) k
  | .nilCheck x => nilC (ev ρ x) k
  | .binOp op t x y _ => qBin T ρ op t x y k
  | .unOp op _ x => qUn ρ op x k
  | .convert s d x => qConv T ρ A s d x k
  | .makeInterface t x => qIface T ρ t x k
  | .makeFunc fn first captured => qFunc ρ fn first captured k
  | .slice t x lo hi none => slcA T ρ t x lo hi k
  | .fieldAddr s x f => qFld T ρ s x f k
  | .field s x f => qFldV T ρ s x f k
  | .indexAddr t x i => qIdx T ρ t x i k
  | .index t x i => qIdxV T ρ t x i k
  | .lookup t m key ok => qLook T ρ A t m key ok k
  | .extract t i => extA (ev ρ t) i k
  | .build t parts => qBuild T ρ t parts k
  | .call ⟨.builtin b, args, ats⟩ => qBlt T ρ A b args.toList ats.toList k
  | _ => false

section
variable {T : TR} {ρ : Nat → AV} {e : En} {k : AV → Bool}
theorem qBin_ok (hT : TTok P T) (he : ER σ φ ρ e) {op : BinOp} {t : Nat} {x y : Operand} (h : qBin T ρ op t x y k = true) : ∃ v r, binV P (full H) op t x y (e.ev x) (e.ev y) = some r ∧ VR σ φ v r ∧ k v = true := by
  obtain ⟨i, hi, h⟩ := withT_ok hT h
  obtain ⟨d, hu, hd⟩ := hi.kind
  split at h
  · rename_i l hl _
    exact strE_ok (op := .eql) (.inl rfl) hi hl (ev_ok he x) (ev_ok he y) h
  · rename_i l hl _
    exact strE_ok (op := .neq) (.inr rfl) hi hl (ev_ok he x) (ev_ok he y) h
  · exact binA_ok hu hd (ev_ok he x) (ev_ok he y) h
theorem qConv_ok (hT : TTok P T) (hr : Rel σ F φ A H) (he : ER σ φ ρ e) {s d : Nat} {x : Operand} (h : qConv T ρ A s d x k = true) : ∃ v r, convV P (full H) s d (e.ev x) = some r ∧ VR σ φ v r ∧ k v = true := by
  obtain ⟨i, hi, h⟩ := withT_ok hT h
  obtain ⟨j, hj, h⟩ := withT_ok hT h
  obtain ⟨d1, hu1, hd1⟩ := hi.kind
  obtain ⟨d2, hu2, hd2⟩ := hj.kind
  split at h
  · rename_i g1 g2 h1 h2
    have e1 : d1 = .int g1 := by rw [h1] at hd1; cases d1 <;> simp [kindOf] at hd1; subst hd1; rfl
    have e2 : d2 = .int g2 := by rw [h2] at hd2; cases d2 <;> simp [kindOf] at hd2; subst hd2; rfl
    subst e1 e2
    exact convA_ok hu1 hu2 (ev_ok he x) h
  · rename_i el h1 h2
    obtain ⟨l, hl, h⟩ := withT_ok hT h
    obtain ⟨d3, hu3, hd3⟩ := hl.kind
    split at h
    · rename_i h3
      have e3 : d3 = .int .u8 := by rw [h3] at hd3; cases d3 <;> simp [kindOf] at hd3; subst hd3; rfl
      subst e3
      exact strC_ok hr (elemS_of hu1 (hd1.trans h1) hl).2.2 hu3 (str_of hu2 (hd2.trans h2)) (ev_ok he x) h
    · cases h
  · cases h
theorem qIface_ok (hT : TTok P T) (he : ER σ φ ρ e) {t : Nat} {x : Operand} (h : qIface T ρ t x k = true) : ∃ v r, ifaceV P t (e.ev x) = some r ∧ VR σ φ v r ∧ k v = true := by
  obtain ⟨i, hi, h⟩ := withT_ok hT h
  obtain ⟨d, hu, hd⟩ := hi.kind
  split at h
  · cases h
  · rename_i hn
    refine ⟨_, .iface t (e.ev x), ?_, by simp only [VR]; exact ⟨_, rfl, ev_ok he x⟩, h⟩
    unfold ifaceV
    rw [hu]
    cases d <;> first | rfl | exact absurd hd.symm hn
theorem qFunc_ok (he : ER σ φ ρ e) {fn : Fn} {first captured : Array Operand} (h : qFunc ρ fn first captured k = true) :
    ∃ v r, some (Value.func fn (first.toList.map e.ev).toArray (captured.toList.map e.ev).toArray) = some r ∧ VR σ φ v r ∧ k v = true := by
  unfold qFunc at h
  split at h
  · exact ⟨_, _, rfl, by simp only [VR]; exact ⟨_, _, rfl, evl_ok he _, evl_ok he _⟩, h⟩
  · cases h
theorem qFld_ok (hT : TTok P T) (he : ER σ φ ρ e) {s f : Nat} {x : Operand} (h : qFld T ρ s x f k = true) : ∃ v r, fieldAV P s (e.ev x) f = some r ∧ VR σ φ v r ∧ k v = true := by
  obtain ⟨i, hi, h⟩ := withT_ok hT h
  obtain ⟨d, ft, hf, h⟩ := nthF_ok h
  obtain ⟨j, hj, h⟩ := withT_ok hT h
  obtain ⟨hz, h⟩ := bool_f h
  obtain ⟨v, a, h1, h2, h3⟩ := fldP_ok (ev_ok he x) h
  refine ⟨v, _, ?_, h2, h3⟩
  rw [h1, fieldAV_p, hi.fldO hf hj hz]
  rfl
theorem qFldV_ok (hT : TTok P T) (he : ER σ φ ρ e) {s f : Nat} {x : Operand} (h : qFldV T ρ s x f k = true) : ∃ v r, fieldV P s (e.ev x) f = some r ∧ VR σ φ v r ∧ k v = true := by
  obtain ⟨i, hi, h⟩ := withT_ok hT h
  obtain ⟨d, ft, hf, h⟩ := nthF_ok h
  obtain ⟨j, hj, h⟩ := withT_ok hT h
  cases hb : aggK j.k with
  | false =>
    rw [hb] at h
    exact fldA_ok (hi.fld hf) (by rw [aggN_of hj, hb]; rfl) (ev_ok he x) h
  | true =>
    rw [hb] at h
    exact fldB_ok (hi.fld hf) (by rw [aggN_of hj, hb]; rfl) (ev_ok he x) h
theorem arr_of {t n el : Nat} {d : TypeDesc} (hu : P.underlying t = some d) (hd : kindOf d = .arr n el) : P.underlying t = some (.array n el) := by
  have : d = .array n el := by cases d <;> cases hd <;> rfl
  subst this; exact hu
theorem qIdx_ok (hT : TTok P T) (he : ER σ φ ρ e) {t : Nat} {x y : Operand} (h : qIdx T ρ t x y k = true) : ∃ v r, indexAV P t (e.ev x) (e.ev y) = some r ∧ VR σ φ v r ∧ k v = true := by
  obtain ⟨i, hi, h⟩ := withT_ok hT h
  obtain ⟨d, hu, hd⟩ := hi.kind
  split at h
  · rename_i el hk
    obtain ⟨j, hj, h⟩ := withT_ok hT h
    exact idxP_ok (elemS_of hu (hd.trans hk) hj).1 (ev_ok he x) (ev_ok he y) h
  · rename_i n el hk
    obtain ⟨j, hj, h⟩ := withT_ok hT h
    exact idxR_ok (by simp [arrS, arrT, arr_of hu (hd.trans hk), hj.size]) (ev_ok he x) (ev_ok he y) h
  · cases h
theorem qIdxV_ok (hT : TTok P T) (he : ER σ φ ρ e) {t : Nat} {x y : Operand} (h : qIdxV T ρ t x y k = true) : ∃ v r, indexV P t (e.ev x) (e.ev y) = some r ∧ VR σ φ v r ∧ k v = true := by
  obtain ⟨i, hi, h⟩ := withT_ok hT h
  obtain ⟨d, hu, hd⟩ := hi.kind
  split at h
  · rename_i hk
    exact sidx_ok (str_of hu (hd.trans hk)) (ev_ok he x) (ev_ok he y) h
  · rename_i n el hk
    obtain ⟨j, hj, h⟩ := withT_ok hT h
    obtain ⟨h1, h⟩ := bool_t h
    obtain ⟨h2, h⟩ := bool_f h
    exact idxV_ok (arr_of hu (hd.trans hk)) hj (Nat.eq_of_beq_eq_true h1) h2 (ev_ok he x) (ev_ok he y) h
  · cases h
theorem map_of {t kt et : Nat} {d : TypeDesc} (hu : P.underlying t = some d) (hd : kindOf d = .map kt et) : P.underlying t = some (.map kt et) := by
  have : d = .map kt et := by cases d <;> cases hd <;> rfl
  subst this; exact hu
theorem qLook_ok (hT : TTok P T) (hr : Rel σ F φ A H) (he : ER σ φ ρ e) {t : Nat} {m key : Operand} {ok : Bool} (h : qLook T ρ A t m key ok k = true) : ∃ v r, qrunV P (Instr.lookup t (e.ev m) (e.ev key) ok) (full H) = some r ∧ VR σ φ v r ∧ k v = true := by
  obtain ⟨i, hi, h⟩ := withT_ok hT h
  obtain ⟨d, hu, hd⟩ := hi.kind
  split at h
  · rename_i kt et hk
    obtain ⟨g, hg, h⟩ := keyC_ok hT h
    obtain ⟨j, hj, h⟩ := withT_ok hT h
    have hzv := hj.zv
    cases hz : zeroT P et with
    | none => rw [hz] at hzv; cases hzv
    | some z =>
      rw [hz] at hzv
      have hzv : cv1 z = j.zv := Option.some.inj hzv
      exact lokA_ok hr (map_of hu (hd.trans hk)) hg hz (hzv ▸ cv1_ok z) (ev_ok he m) (ev_ok he key) h
  · cases h
theorem qBuild_ok (hT : TTok P T) (he : ER σ φ ρ e) {t : Nat} {parts : Array (Nat × Operand)} (h : qBuild T ρ t parts k = true) : ∃ v r, buildV P t (parts.toList.map fun p => (p.1, e.ev p.2)) = some r ∧ VR σ φ v r ∧ k v = true := by
  obtain ⟨i, hi, h⟩ := withT_ok hT h
  obtain ⟨d, hu, hd⟩ := hi.kind
  split at h
  · rename_i pl hpl
    obtain ⟨l, h1, h2, h⟩ := partsA_ok he _ _ h
    exact bldA_ok hi hpl h1 h2 h
  · rename_i n el hpl hk
    obtain ⟨j, hj, h⟩ := withT_ok hT h
    obtain ⟨l, h1, h2, h⟩ := partsR_ok he _ _ h
    exact bldR_ok hi hpl (arr_of hu (hd.trans hk)) hj h1 h2 h
  · cases h
theorem qLen_ok (hT : TTok P T) (hr : Rel σ F φ A H) (he : ER σ φ ρ e) {t : Nat} {x : Operand} (h : qLen T ρ A t x k = true) : ∃ v r, lenV P (full H) t (e.ev x) = some r ∧ VR σ φ v r ∧ k v = true := by
  obtain ⟨i, hi, h⟩ := withT_ok hT h
  obtain ⟨d, hu, hd⟩ := hi.kind
  split at h
  · rename_i el hk
    have : d = .slice el := by rw [hk] at hd; cases d <;> simp [kindOf] at hd; subst hd; rfl
    subst this
    exact lenA_ok (e := el) (by simp [elemT, hu]) (ev_ok he x) h
  · rename_i hk
    exact slen_ok (str_of hu (hd.trans hk)) (ev_ok he x) h
  · rename_i kt et hk
    exact lenM_ok hr (map_of hu (hd.trans hk)) (ev_ok he x) h
  · cases h
theorem qA_ok (hT : TTok P T) (hr : Rel σ F φ A H) (he : ER σ φ ρ e) {op : Op} (h : qA T ρ A op k = true) : ∃ v r, opQ P (full H) e.ev op = some r ∧ VR σ φ v r ∧ k v = true := by
  unfold qA at h
  split at h
  · rename_i x; exact ⟨_, _, rfl, ev_ok he x, h⟩
  · rename_i x; exact ⟨_, _, rfl, ev_ok he x, h⟩
  · rename_i c a b; exact pickA_ok (ev_ok he c) (ev_ok he a) (ev_ok he b) h
  · rename_i t p
    obtain ⟨a, v, r, h1, h2, h3, h4⟩ := ldT_ok hT hr (ev_ok he p) h
    refine ⟨v, r, ?_, h3, h4⟩
    show loadQ P (full H) t (e.ev p) = _
    rw [h1]; exact h2
  · rename_i x; exact nilC_ok (ev_ok he x) h
  · exact qBin_ok hT he h
  · rename_i op _ x
    cases op with
    | not => exact notA_ok (ev_ok he x) h
    | neg => exact negA_ok (ev_ok he x) h
    | _ => cases h
  · exact qConv_ok hT hr he h
  · exact qIface_ok hT he h
  · exact qFunc_ok he h
  · exact slcA_ok hT he h
  · exact qFld_ok hT he h
  · exact qFldV_ok hT he h
  · exact qIdx_ok hT he h
  · exact qIdxV_ok hT he h
  · exact qLook_ok hT hr he h
  · rename_i t i; exact extA_ok (ev_ok he t) h
  · exact qBuild_ok hT he h
  · rename_i b args ats
    unfold qBlt at h
    split at h
    · rename_i x t h1 h2
      have e1 : opQ P (full H) e.ev (.call ⟨.builtin .len, args, ats⟩) = lenV P (full H) t (e.ev x) := by
        show callQ P (full H) (.builtin .len) ats.toList (args.toList.map e.ev) = _
        rw [h1, h2]; rfl
      rw [e1]
      exact qLen_ok hT hr he h
    · rename_i x y h1
      have e1 : opQ P (full H) e.ev (.call ⟨.builtin .max, args, ats⟩) = max2V (e.ev x) (e.ev y) := by
        show callQ P (full H) (.builtin .max) ats.toList (args.toList.map e.ev) = _
        rw [h1]; rfl
      rw [e1]
      exact maxA_ok (ev_ok he x) (ev_ok he y) h
    · rename_i x y h1
      have e1 : opQ P (full H) e.ev (.call ⟨.builtin .min, args, ats⟩) = min2V (e.ev x) (e.ev y) := by
        show callQ P (full H) (.builtin .min) ats.toList (args.toList.map e.ev) = _
        rw [h1]; rfl
      rw [e1]
      exact minA_ok (ev_ok he x) (ev_ok he y) h
    · cases h
  · cases h
end

/-! ### Every operation -/
abbrev eApp (T : TR) (ρ : Nat → AV) (A : AH) (args : List Operand) (ats : List TypeId) (k : AV → AH → Bool) : Bool :=
  match args, ats with
  | [s, x], [t, xt] => withT T t fun i => withT T xt fun j => match i.k, j.k with
    | .slice e, .int _ => withT T e fun l => appZ A (ev ρ s) (ev ρ x) l k
    | .slice e, .slice _ => withT T e fun l => @Bool.rec (fun _ => Bool) false (appA A (ev ρ s) (ev ρ x) l.size k) (Nat.ble l.bytes 1048576)
    | .slice e, .str => withT T e fun l => @Bool.rec (fun _ => Bool) false (appA A (ev ρ s) (ev ρ x) l.size k) (Nat.ble l.bytes 1048576)
    | _, _ => false
  | _, _ => false
abbrev eBlt (T : TR) (ρ : Nat → AV) (A : AH) (b : Builtin) (args : List Operand) (ats : List TypeId) (k : AV → AH → Bool) : Bool :=
  match b, args, ats with
  | .append, args, ats => eApp T ρ A args ats k
  | .copy, [d, s], [t, _] => withT T t fun i => match i.k with
    | .slice e => withT T e fun l => cpyA A (ev ρ d) (ev ρ s) l.size k
    | _ => false
  | .clear, [q], [t] => withT T t fun i => match i.k with
    | .slice e => withT T e fun l => clrA A (ev ρ q) l k
    | _ => false
  | .delete, [m, key], [t, _] => withT T t fun i => match i.k with
    | .map kt et => keyC T kt fun g => mdlA A g (ev ρ m) (ev ρ key) fun A => k undA A
    | _ => false
  | b, args, ats => qBlt T ρ A b args ats fun v => k v A
abbrev eCall (Tb : FT) (ρ : Nat → AV) (A : AH) (f : Operand) (args : List Operand) (k : AV → AH → Bool) : Bool :=
  match f with
  | .func f => withF Tb f fun e => appF e.n e.g (args.map (ev ρ)) A k
  | f => dynA Tb (ev ρ f) (args.map (ev ρ)) A k
abbrev opA (T : TR) (Tb : FT) (ρ : Nat → AV) (A : AH) (op : Op) (k : AV → AH → Bool) : Bool :=
  match op with
  | .store t p x => withT T t fun i => stA A (ev ρ p) (ev ρ x) i.size fun A => k undA A
  | .alloc t => withT T t fun i => allA A i.zero k
  | .box t x => boxA A (ev ρ x) k
  | .makeSlice t l c => withT T t fun i => match i.k with
    | .slice e => withT T e fun j => makA A j (ev ρ l) (ev ρ c) k
    | _ => false
  | .buildSlice t len parts => withT T t fun i => match i.k with
    | .slice e => withT T e fun j => partsR ρ j.size parts.toList fun l => bslA A j len l k
    | _ => false
  | .makeMap t none => withT T t fun i => match i.k with
    | .map kt _ => keyC T kt fun g => mkmA A g k
    | _ => false
  | .mapUpdate t m key x => withT T t fun i => match i.k with
    | .map kt _ => keyC T kt fun g => mupA A g (ev ρ m) (ev ρ key) (ev ρ x) fun A => k undA A
    | _ => false
  | .insert t m key x => withT T t fun i => match i.k with
    | .map kt _ => keyC T kt fun g => mupA A g (ev ρ m) (ev ρ key) (ev ρ x) fun A => k undA A
    | _ => false
  | .call ⟨.value f, args, _⟩ => eCall Tb ρ A f args.toList k
  | .call ⟨.builtin b, args, ats⟩ => eBlt T ρ A b args.toList ats.toList k
  | op => qA T ρ A op fun v => k v A

section
variable {T : TR} {Tb : FT} {ρ : Nat → AV} {e : En} {k : AV → AH → Bool} {n : Nat} {K : En → Heap → Prop} {Q : Exit → En → Heap → Prop}
/-- What follows an operation that gives a value. -/
def After (σ : Nat → Value) (F : Nat → Option Obj) (φ : Phi) (k : AV → AH → Bool) (R : Value → Heap → Prop) : Prop :=
  ∀ v A' φ' w H', φ.le φ' → Rel σ F φ' A' H' → VR σ φ' v w → k v A' = true → R w H'
theorem quiet_op {o : Oper} {r : Value} (h : opQ P (full H) e.ev o.op = some r) (hk : K (e.put n o.dst r) H) : opWp n P o e H K Q := hwp_of_qrun P _ H _ _ _ (opQ_sound (full_of H) h) hk
theorem eCall_ok (hTb : TOK P Tb) (hr : Rel σ F φ A H) (he : ER σ φ ρ e) {f : Operand} {args : List Operand} {R : Value → Heap → Prop} {E : List PanicEntry → Heap → Prop} (h : eCall Tb ρ A f args k = true) (hk : After σ F φ k R) :
    callV P (e.ev f) (args.map e.ev) H R E := by
  have done : ∀ {w : Value}, callV P w (args.map e.ev) H (RK σ F φ k) (fun _ _ => False) → callV P w (args.map e.ev) H R E := by
    intro w hw
    unfold callV at hw ⊢
    split at hw
    · exact hw.mono (fun v H' ⟨φ', a, A', h1, h2, h3, h4⟩ => hk a A' φ' v H' h1 h3 h2 h4) (fun _ _ x => x.elim)
    · exact hw.elim
  unfold eCall at h
  split at h
  · rename_i f
    obtain ⟨fe, hf, h⟩ := withF_ok hTb h
    refine done ?_
    show CallF P f ([] ++ args.map e.ev ++ []) H _ _
    simp only [List.nil_append, List.append_nil]
    exact hf σ F φ A H _ _ k hr (evl_ok he args) h
  · exact done (dynA_ok hTb hr (ev_ok he _) (evl_ok he args) h)
theorem blt_op (hT : TTok P T) (hr : Rel σ F φ A H) (he : ER σ φ ρ e) {b : Builtin} {args : Array Operand} {ats : Array TypeId} {dst : Option Nat} {type : TypeId} {pos : String} {after : Array Edge} {guard : Option (Nat × Bool)}
    (h : qBlt T ρ A b args.toList ats.toList (fun v => k v A) = true) (hk : After σ F φ k fun w H' => K (e.put n dst w) H') : opWp n P ⟨dst, .call ⟨.builtin b, args, ats⟩, type, pos, after, guard⟩ e H K Q := by
  obtain ⟨v, r, h1, h2, h3⟩ := qA_ok (op := .call ⟨.builtin b, args, ats⟩) hT hr he h
  exact quiet_op h1 (hk v A φ r H φ.le_refl hr h2 h3)
theorem opA_ok (hT : TTok P T) (hTb : TOK P Tb) (hr : Rel σ F φ A H) (he : ER σ φ ρ e) {o : Oper} (h : opA T Tb ρ A o.op k = true) (hk : After σ F φ k fun w H' => K (e.put n o.dst w) H') : opWp n P o e H K Q := by
  obtain ⟨dst, op, type, pos, after, guard⟩ := o
  simp only at h hk
  unfold opA at h
  split at h
  · rename_i t p x
    obtain ⟨i, hi, h⟩ := withT_ok hT h
    obtain ⟨a, A', H', h1, h2, h3, h4⟩ := stA_ok hi.size hr (ev_ok he p) (ev_ok he x) h
    refine opV_op ?_
    show ptrW (e.ev p) _
    rw [h1]
    show withV (e.ev x) fun v => someW (storeA P H t a v) _
    show someW (storeA P H t a (e.ev x)) _
    rw [h2]
    exact hk undA A' φ undef H' φ.le_refl h3 VR_und h4
  · rename_i t
    obtain ⟨i, hi, h⟩ := withT_ok hT h
    obtain ⟨z, hz, hzs, hv⟩ := hi.zer
    obtain ⟨v, A', φ', h1, h2, h3, h4⟩ := allA_ok (el := t) hr (hv σ φ) h
    refine opV_op ?_
    show someW (zeroT P t) _
    rw [hz]
    exact hk v A' φ' _ _ h1 h2 h3 h4
  · rename_i t x
    obtain ⟨v, A', φ', h1, h2, h3, h4⟩ := boxA_ok (el := t) hr (ev_ok he x) h
    exact opV_op (hk v A' φ' _ _ h1 h2 h3 h4)
  · rename_i t l c
    obtain ⟨i, hi, h⟩ := withT_ok hT h
    obtain ⟨d, hu, hd⟩ := hi.kind
    split at h
    · rename_i el hkk
      obtain ⟨j, hj, h⟩ := withT_ok hT h
      obtain ⟨r, h1, v, A', φ', h2, h3, h4, h5⟩ := makA_ok hr (elemS_of hu (hd.trans hkk) hj).2.2 hj (ev_ok he l) (ev_ok he c) h
      refine opV_op ?_
      show someW (makeV P H t (e.ev l) (e.ev c)) _
      rw [h1]
      exact hk v A' φ' _ _ h2 h3 h4 h5
    · cases h
  · rename_i t len parts
    obtain ⟨i, hi, h⟩ := withT_ok hT h
    obtain ⟨d, hu, hd⟩ := hi.kind
    split at h
    · rename_i el hkk
      obtain ⟨j, hj, h⟩ := withT_ok hT h
      obtain ⟨l, h1, h2, h⟩ := partsR_ok he _ _ h
      obtain ⟨r, h3, v, A', φ', h4, h5, h6, h7⟩ := bslA_ok hr (elemS_of hu (hd.trans hkk) hj).2.2 hj h1 h2 h
      refine opV_op ?_
      show someW (buildSliceV P H t len (parts.toList.map fun p => (p.1, e.ev p.2))) _
      rw [h3]
      exact hk v A' φ' _ _ h4 h5 h6 h7
    · cases h
  · rename_i t
    obtain ⟨i, hi, h⟩ := withT_ok hT h
    split at h
    · obtain ⟨g, hg, h⟩ := keyC_ok hT h
      obtain ⟨v, A', φ', h1, h2, h3, h4⟩ := mkmA_ok hr h
      exact opV_op (hk v A' φ' _ _ h1 h2 h3 h4)
    · cases h
  · rename_i t m key x
    obtain ⟨i, hi, h⟩ := withT_ok hT h
    obtain ⟨d, hu, hd⟩ := hi.kind
    split at h
    · rename_i kt et hkk
      obtain ⟨g, hg, h⟩ := keyC_ok hT h
      refine opV_op ?_
      exact mupA_ok hr (map_of hu (hd.trans hkk)) hg (ev_ok he m) (ev_ok he key) (ev_ok he x) (fun A' H' h1 h2 => hk undA A' φ undef H' φ.le_refl h1 VR_und h2) h
    · cases h
  · rename_i t m key x
    obtain ⟨i, hi, h⟩ := withT_ok hT h
    obtain ⟨d, hu, hd⟩ := hi.kind
    split at h
    · rename_i kt et hkk
      obtain ⟨g, hg, h⟩ := keyC_ok hT h
      refine opV_op ?_
      exact mupA_ok hr (map_of hu (hd.trans hkk)) hg (ev_ok he m) (ev_ok he key) (ev_ok he x) (fun A' H' h1 h2 => hk undA A' φ undef H' φ.le_refl h1 VR_und h2) h
    · cases h
  · exact opWp_call (eCall_ok hTb hr he h hk)
  · rename_i b args ats
    have bi : ∀ {b : Builtin} {run : Array TypeId → TypeId → Array Value → Sem Value}, execOp e.ev ⟨dst, .call ⟨.builtin b, args, ats⟩, type, pos, after, guard⟩ = (do pure (Next.value (← run ats type (args.map e.ev)))) →
        hwp P (run ats type (args.map e.ev)) H (fun w H' => K (e.put n dst w) H') (fun _ _ => False) → opWp n P ⟨dst, .call ⟨.builtin b, args, ats⟩, type, pos, after, guard⟩ e H K Q := by
      intro b run e1 h1
      unfold opWp
      rw [e1, hwp_bind']
      exact hwp_mono P _ _ _ _ _ _ (fun v H' hx => hx) (fun v H' hx => hx.elim) h1
    have two : ∀ {x y : Operand}, args.toList = [x, y] → args.map e.ev = #[e.ev x, e.ev y] := by
      intro x y hx; apply Array.ext'; simp [hx]
    have ty2 : ∀ {t t' : TypeId}, ats.toList = [t, t'] → ats = #[t, t'] := by
      intro t t' hx; apply Array.ext'; simp [hx]
    unfold eBlt at h
    split at h
    · unfold eApp at h
      split at h
      · rename_i s x t xt ha hat
        obtain ⟨i, hi, h⟩ := withT_ok hT h
        obtain ⟨j, hj, h⟩ := withT_ok hT h
        obtain ⟨d1, hu1, hd1⟩ := hi.kind
        obtain ⟨d2, hu2, hd2⟩ := hj.kind
        have reg : ∀ {el : Nat} {l : TI} (hl : TIok P el l) (he1 : elemT P t = some el) (hdi : ∀ kk, d2 ≠ .int kk), @Bool.rec (fun _ => Bool) false (appA A (ev ρ s) (ev ρ x) l.size k) (Nat.ble l.bytes 1048576) = true →
            opWp n P ⟨dst, .call ⟨.builtin .append, args, ats⟩, type, pos, after, guard⟩ e H K Q := by
          intro el l hl he1 hdi h
          obtain ⟨hb, h⟩ := bool_t h
          obtain ⟨z, hz, hzs, _⟩ := hl.zer
          refine bi rfl ?_
          rw [ty2 hat, two ha]
          refine hwp_mono P _ _ _ _ _ _ (fun v H' hx => hx) (fun v H' hx => hx) (hwp_append (E := fun _ _ => False) ?_)
          exact appA_ok hr (ev_ok he s) (ev_ok he x) he1 hl.size hl.bytes (Nat.le_of_ble_eq_true hb) hz hzs hu2 hdi hk h
        split at h
        · rename_i el g h1 h2
          obtain ⟨l, hl, h⟩ := withT_ok hT h
          have e2 : d2 = .int g := by rw [h2] at hd2; cases d2 <;> simp [kindOf] at hd2; subst hd2; rfl
          subst e2
          refine bi rfl ?_
          rw [ty2 hat, two ha]
          exact appZ_ok hr (ev_ok he s) (ev_ok he x) (elemS_of hu1 (hd1.trans h1) hl).2.2 hl hu2 hk h
        · rename_i el el' h1 h2
          obtain ⟨l, hl, h⟩ := withT_ok hT h
          exact reg hl (elemS_of hu1 (hd1.trans h1) hl).2.1 (by rintro kk rfl; rw [h2] at hd2; cases hd2) h
        · rename_i el h1 h2
          obtain ⟨l, hl, h⟩ := withT_ok hT h
          exact reg hl (elemS_of hu1 (hd1.trans h1) hl).2.1 (by rintro kk rfl; rw [h2] at hd2; cases hd2) h
        · cases h
      · cases h
    · rename_i dd s t t2 ha hat
      obtain ⟨i, hi, h⟩ := withT_ok hT h
      obtain ⟨d, hu, hd⟩ := hi.kind
      split at h
      · rename_i el hkk
        obtain ⟨l, hl, h⟩ := withT_ok hT h
        refine bi rfl ?_
        rw [ty2 hat, two ha]
        exact cpyA_ok hr (elemS_of hu (hd.trans hkk) hl).2.2 hl.size (ev_ok he dd) (ev_ok he s) (fun v A' w H' h1 h2 h3 => hk v A' φ w H' φ.le_refl h1 h2 h3) h
      · cases h
    · rename_i q t ha hat
      obtain ⟨i, hi, h⟩ := withT_ok hT h
      obtain ⟨d, hu, hd⟩ := hi.kind
      split at h
      · rename_i el hkk
        obtain ⟨l, hl, h⟩ := withT_ok hT h
        refine bi rfl ?_
        rw [show ats = #[t] by apply Array.ext'; simp [hat], show args.map e.ev = #[e.ev q] by apply Array.ext'; simp [ha]]
        exact clrA_ok hr (elemS_of hu (hd.trans hkk) hl).2.2 hl (ev_ok he q) (fun A' H' h1 h2 => hk undA A' φ undef H' φ.le_refl h1 VR_und h2) h
      · cases h
    · rename_i m key t t2 ha hat
      obtain ⟨i, hi, h⟩ := withT_ok hT h
      obtain ⟨d, hu, hd⟩ := hi.kind
      split at h
      · rename_i kt et hkk
        obtain ⟨g, hg, h⟩ := keyC_ok hT h
        refine bi rfl ?_
        rw [ty2 hat, two ha]
        exact mdlA_ok hr (map_of hu (hd.trans hkk)) hg (ev_ok he m) (ev_ok he key) (fun A' H' h1 h2 => hk undA A' φ undef H' φ.le_refl h1 VR_und h2) h
      · cases h
    · exact blt_op hT hr he h hk
  · obtain ⟨v, r, h1, h2, h3⟩ := qA_ok hT hr he h
    exact quiet_op h1 (hk v A φ r H φ.le_refl hr h2 h3)
end
end
end Go.Run
