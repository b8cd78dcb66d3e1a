
/- Closed runs: operations that look, by their forms. -/
import Derived.Test.YtgpogemdoopdjaaGreatRunK1
namespace Go.Run
open Go.HL
variable {σ : Nat → Value} {F : Nat → Option Obj} {φ : Phi} {A : AH} {H : Heap} {P : Program} {V : HV}
noncomputable section
set_option linter.unusedVariables false

/-- What is known of a type. -/
abbrev withT (T : TR) (t : Nat) (k : TI → Bool) : Bool := @Option.rec TI (fun _ => Bool) false k (T.get t)
theorem withT_ok {T : TR} (hT : TTok P T) {t : Nat} {k : TI → Bool} (h : withT T t k = true) : ∃ i, TIok P t i ∧ k i = true := by
  unfold withT at h
  cases hg : T.get t with
  | none => rw [hg] at h; cases h
  | some i => rw [hg] at h; exact ⟨i, hT t i hg, h⟩
abbrev aggK (k : TK) : Bool := @TK.rec (fun _ => Bool) (fun _ => false) false false (fun _ => false) (fun _ => false) (fun _ _ => true) (fun _ _ => false) true false false false k
theorem aggN_of {t : Nat} {i : TI} (hi : TIok P t i) : aggN P t = some (if aggK i.k then some i.size else none) := by
  obtain ⟨d, h1, h2⟩ := hi.kind
  unfold aggN
  rw [h1, ← h2]
  cases d <;> simp [kindOf, aggK, hi.size]

/-! ### load -/
abbrev ldT (T : TR) (A : AH) (t : Nat) (p : AV) (k : AV → Bool) : Bool := withT T t fun i => @Bool.rec (fun _ => Bool) (ld A p k) (ldN A p i.size fun l => k (.a l)) (aggK i.k)
theorem ldT_ok {T : TR} (hT : TTok P T) {t : Nat} {p : AV} {w : Value} {k : AV → Bool} (h : Rel σ F φ A H) (hp : VR σ φ p w) (hk : ldT T A t p k = true) :
    ∃ a v r, w = .pointer (some a) ∧ loadA P (full H) t a = some r ∧ VR σ φ v r ∧ k v = true := by
  obtain ⟨i, hi, hk⟩ := withT_ok hT hk
  cases hb : aggK i.k with
  | false =>
    rw [hb] at hk
    obtain ⟨a, v, r, h1, h2, h3, h4, h5⟩ := ld_sound h hp hk
    refine ⟨a, v, r, h1, ?_, h4, h5⟩
    unfold loadA
    rw [aggN_of hi, hb]
    exact h3
  | true =>
    rw [hb] at hk
    obtain ⟨a, l, ws, h1, h2, h3, h4, h5, h6⟩ := ldN_sound h hp hk
    refine ⟨a, .a l, .agg ws.toArray, h1, ?_, by simp only [VR]; exact ⟨_, rfl, by simpa using h5⟩, h6⟩
    unfold loadA
    rw [aggN_of hi, hb]
    simp only [if_true]
    show (cellsH (cellH H) a 0 i.size).map _ = _
    rw [h3]
    rfl

/-! ### binOp -/
abbrev binA (op : BinOp) (kd : TK) (xo yo : Operand) (x y : AV) (k : AV → Bool) : Bool :=
  match kd, op with
  | .int _, .add => addA x y k
  | .int _, .sub => subA x y k
  | .int _, .mul => mulA x y k
  | .int _, .quo => quoA x y k
  | .int _, .rem => remA x y k
  | .int _, .and => andA x y k
  | .int _, .or => orA x y k
  | .int _, .xor => xorA x y k
  | .int _, .eql => eqlA x y k
  | .int _, .neq => neqA x y k
  | .int _, .lss => lssA x y k
  | .int _, .leq => leqA x y k
  | .int _, .gtr => gtrA x y k
  | .int _, .geq => geqA x y k
  | .int _, op => binI op x y k
  | .str, .add => scatA x y k
  | .str, .eql => seqA x y k
  | .str, .neq => sneA x y k
  | .bool, .eql => booE false x y k
  | .bool, .neq => booE true x y k
  | .ptr _, .eql => @Bool.rec (fun _ => Bool) false (nilE 0 false x y k) (oneConst xo yo)
  | .ptr _, .neq => @Bool.rec (fun _ => Bool) false (nilE 0 true x y k) (oneConst xo yo)
  | .slice _, .eql => @Bool.rec (fun _ => Bool) false (nilE 1 false x y k) (oneConst xo yo)
  | .slice _, .neq => @Bool.rec (fun _ => Bool) false (nilE 1 true x y k) (oneConst xo yo)
  | .map _ _, .eql => @Bool.rec (fun _ => Bool) false (nilE 2 false x y k) (oneConst xo yo)
  | .map _ _, .neq => @Bool.rec (fun _ => Bool) false (nilE 2 true x y k) (oneConst xo yo)
  | .func, .eql => @Bool.rec (fun _ => Bool) false (nilE 3 false x y k) (oneConst xo yo)
  | .func, .neq => @Bool.rec (fun _ => Bool) false (nilE 3 true x y k) (oneConst xo yo)
  | .iface, .eql => @Bool.rec (fun _ => Bool) false (nilE 4 false x y k) (oneConst xo yo)
  | .iface, .neq => @Bool.rec (fun _ => Bool) false (nilE 4 true x y k) (oneConst xo yo)
  | _, _ => false
theorem bin_ok' {op : BinOp} {f : AV → AV → (AV → Bool) → Bool} (h : binOK P op f) {t : TypeId} {xo yo : Operand} {x y : AV} {w w' : Value} {k : AV → Bool} (hx : VR σ φ x w) (hy : VR σ φ y w') (hk : f x y k = true) :
    ∃ v r, binV P (full H) op t xo yo w w' = some r ∧ VR σ φ v r ∧ k v = true :=
  let ⟨r, v, a, b, c⟩ := h _ _ (full H) t xo yo _ _ _ _ _ hx hy hk; ⟨v, r, a, b, c⟩
theorem binA_ok {t : TypeId} {op : BinOp} {kd : TK} {d : TypeDesc} {xo yo : Operand} {x y : AV} {w w' : Value} {k : AV → Bool} (hu : P.underlying t = some d) (hd : kindOf d = kd)
    (hx : VR σ φ x w) (hy : VR σ φ y w') (h : binA op kd xo yo x y k = true) : ∃ v r, binV P (full H) op t xo yo w w' = some r ∧ VR σ φ v r ∧ k v = true := by
  have nil : ∀ (g : Nat) (b : Bool), kindN' d = some g → (op = .eql ∧ b = false ∨ op = .neq ∧ b = true) → @Bool.rec (fun _ => Bool) false (nilE g b x y k) (oneConst xo yo) = true → ∃ v r, binV P (full H) op t xo yo w w' = some r ∧ VR σ φ v r ∧ k v = true := by
    intro g b hg hop hk
    obtain ⟨hc, hk⟩ := bool_t hk
    rcases hop with ⟨rfl, rfl⟩ | ⟨rfl, rfl⟩
    · exact nilE_ok (op := .eql) (.inl rfl) hu hg hc hx hy hk
    · exact nilE_ok (op := .neq) (.inr rfl) hu hg hc hx hy hk
  unfold binA at h
  split at h
  · exact bin_ok' addA_ok hx hy h
  · exact bin_ok' subA_ok hx hy h
  · exact bin_ok' mulA_ok hx hy h
  · exact bin_ok' quoA_ok hx hy h
  · exact bin_ok' remA_ok hx hy h
  · exact bin_ok' andA_ok hx hy h
  · exact bin_ok' orA_ok hx hy h
  · exact bin_ok' xorA_ok hx hy h
  · exact bin_ok' eqlA_ok hx hy h
  · exact bin_ok' neqA_ok hx hy h
  · exact bin_ok' lssA_ok hx hy h
  · exact bin_ok' leqA_ok hx hy h
  · exact bin_ok' gtrA_ok hx hy h
  · exact bin_ok' geqA_ok hx hy h
  · exact bin_ok' binI_ok hx hy h
  · exact bin_ok' scatA_ok hx hy h
  · exact bin_ok' seqA_ok hx hy h
  · exact bin_ok' sneA_ok hx hy h
  · have : d = .bool := by cases d <;> first | rfl | cases hd
    subst this
    exact booE_ok (op := .eql) (.inl rfl) hu hx hy h
  · have : d = .bool := by cases d <;> first | rfl | cases hd
    subst this
    exact booE_ok (op := .neq) (.inr rfl) hu hx hy h
  · exact nil 0 false (by cases d <;> first | rfl | cases hd) (.inl ⟨rfl, rfl⟩) h
  · exact nil 0 true (by cases d <;> first | rfl | cases hd) (.inr ⟨rfl, rfl⟩) h
  · exact nil 1 false (by cases d <;> first | rfl | cases hd) (.inl ⟨rfl, rfl⟩) h
  · exact nil 1 true (by cases d <;> first | rfl | cases hd) (.inr ⟨rfl, rfl⟩) h
  · exact nil 2 false (by cases d <;> first | rfl | cases hd) (.inl ⟨rfl, rfl⟩) h
  · exact nil 2 true (by cases d <;> first | rfl | cases hd) (.inr ⟨rfl, rfl⟩) h
  · exact nil 3 false (by cases d <;> first | rfl | cases hd) (.inl ⟨rfl, rfl⟩) h
  · exact nil 3 true (by cases d <;> first | rfl | cases hd) (.inr ⟨rfl, rfl⟩) h
  · exact nil 4 false (by cases d <;> first | rfl | cases hd) (.inl ⟨rfl, rfl⟩) h
  · exact nil 4 true (by cases d <;> first | rfl | cases hd) (.inr ⟨rfl, rfl⟩) h
  · cases h
end
end Go.Run
