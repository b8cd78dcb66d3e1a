
/- Verification conditions for code, and their soundness. -/
import Derived.Test.YtndbdehpkiimjaaGreatHLOpV
namespace Go.HL

/-- What the operation number j has left in its slot. -/
def slotOf (ops : Array Oper) (ρ : En) (j : Nat) : Value :=
  match (ops[j]?).bind (·.dst) with
  | some d => ρ.get d
  | none => undef
def guardW (v : Value) (want : Bool) (p q : Prop) : Prop :=
  match v with
  | .bool b => (b = want → p) ∧ (b = (!want) → q)
  | _ => q
def yieldV : Value → Option Bool
  | .bool b => some b
  | _ => none
theorem yield_eq {n : Nat} {a : Act} {ρ : En} (h : Ag n a ρ) (ops : Array Oper) (j : Nat) : yielded ops a.tmps j = yieldV (slotOf ops ρ j) := by
  unfold yielded slotOf
  cases (ops[j]?).bind (·.dst) with
  | none => rfl
  | some d =>
    have ht := h.2.1 d
    rw [Array.getD_eq_getD_getElem?] at ht
    simp only [Option.bind_some]
    rw [← ht]
    cases hv : a.tmps[d]? with
    | none => rfl
    | some v => cases v <;> rfl

/-- The condition of one operation, with its guard. -/
def opG (n : Nat) (P : Program) (ops : Array Oper) (o : Oper) (ρ : En) (H : Heap) (K : En → Heap → Prop) (Q : Exit → En → Heap → Prop) : Prop :=
  match o.guard with
  | none => opV n P o ρ H K Q
  | some (j, want) => guardW (slotOf ops ρ j) want (opV n P o ρ H K Q) (K (ρ.put n o.dst undef) H)

theorem opG_sound {n : Nat} {P : Program} {ops : Array Oper} {o : Oper} {ρ : En} {K : En → Heap → Prop} {Q : Exit → En → Heap → Prop} {w0 w : World} {a : Act}
    (h0 : Rest w0 w) (ha : Ag n a ρ) (h : opG n P ops o ρ w.heap K Q) :
    if Region.wanted o (yielded ops a.tmps) then o.wp P a w (up n w0 K) (upQ n w0 Q) ∨ (o.asks P a w ∧ LetsOut (upQ n w0 Q)) else up n w0 K (a.put o.dst undef) w := by
  unfold opG at h
  unfold Region.wanted
  cases hg : o.guard with
  | none =>
    rw [hg] at h
    simp only [if_true]
    exact .inl (opV_sound h0 ha h)
  | some g =>
    obtain ⟨j, want⟩ := g
    rw [hg] at h
    simp only [yield_eq ha]
    simp only [guardW] at h
    generalize slotOf ops ρ j = v at h
    cases v with
    | bool b =>
      by_cases hb : b = want
      · have e : (yieldV (.bool b) == some want) = true := by subst hb; simp [yieldV]
        rw [if_pos e]
        exact .inl (opV_sound h0 ha (h.1 hb))
      · have hb' : b = !want := by cases b <;> cases want <;> simp_all
        have e : ¬ (yieldV (.bool b) == some want) = true := by simp [yieldV, hb]
        rw [if_neg e]
        exact ⟨h0, _, ha.put _ _, h.2 hb'⟩
    | _ => exact ⟨h0, _, ha.put _ _, h⟩

def opsWp (n : Nat) (P : Program) (ops : Array Oper) (Q : Exit → En → Heap → Prop) : List Oper → En → Heap → Prop
  | [], ρ, H => Q .normal ρ H
  | o :: rest, ρ, H => opG n P ops o ρ H (opsWp n P ops Q rest) Q

theorem opsWp_sound {n : Nat} {P : Program} {ops : Array Oper} {Q : Exit → En → Heap → Prop} {w0 : World} :
    ∀ (l : List Nat) (ol : List Oper), l.map (ops[·]?) = ol.map some → ∀ (ρ : En) (w : World) (a : Act), Rest w0 w → Ag n a ρ → opsWp n P ops Q ol ρ w.heap →
      wpOps P ops (upQ n w0 Q) l a w := by
  intro l
  induction l with
  | nil =>
    intro ol hol ρ w a h0 ha h
    cases ol with
    | nil => exact ⟨h0, _, ha, h⟩
    | cons _ _ => simp at hol
  | cons i l ih =>
    intro ol hol ρ w a h0 ha h
    cases ol with
    | nil => simp at hol
    | cons o ol =>
      simp only [List.map_cons, List.cons.injEq] at hol
      obtain ⟨ho, hol⟩ := hol
      rw [wpOps_cons]
      unfold wpOp
      rw [ho]
      have h' := opG_sound h0 ha h
      simp only
      split
      · rename_i hw
        rw [if_pos hw] at h'
        exact h'.imp (Oper.wp_mono (fun a' w' ⟨hr, ρ', ha', hk⟩ => ih ol hol ρ' w' a' hr ha' hk)) id
      · rename_i hw
        rw [if_neg hw] at h'
        obtain ⟨hr, ρ', ha', hk⟩ := h'
        exact ih ol hol ρ' w _ hr ha' hk

def seqQ (K : En → Heap → Prop) (Q : Exit → En → Heap → Prop) : Exit → En → Heap → Prop
  | .normal, ρ, H => K ρ H
  | e, ρ, H => Q e ρ H
def blkQ (id : Nat) (Q : Exit → En → Heap → Prop) : Exit → En → Heap → Prop
  | .exit i, ρ, H => if i = id then Q .normal ρ H else Q (.exit i) ρ H
  | e, ρ, H => Q e ρ H
def condW (v : Value) (p q : Prop) : Prop :=
  match v with
  | .bool b => (b = true → p) ∧ (b = false → q)
  | _ => False

def CW (n : Nat) (P : Program) (c : Code) (Q : Exit → En → Heap → Prop) (ρ : En) (H : Heap) : Prop :=
  ∀ (w0 w : World) (a : Act), Rest w0 w → w.heap = H → Ag n a ρ → c.wp P (upQ n w0 Q) a w

def cw (n : Nat) (P : Program) : Code → (Exit → En → Heap → Prop) → En → Heap → Prop
  | .skip, Q, ρ, H => Q .normal ρ H
  | .region _ ops false, Q, ρ, H => opsWp n P ops Q ops.toList ρ H
  | .seq x y, Q, ρ, H => cw n P x (seqQ (cw n P y Q) Q) ρ H
  | .cond c x y, Q, ρ, H => condW (ρ.ev c) (cw n P x Q ρ H) (cw n P y Q ρ H)
  | .block id c, Q, ρ, H => cw n P c (blkQ id Q) ρ H
  | .exit id, Q, ρ, H => Q (.exit id) ρ H
  | .ret, Q, ρ, H => Q .ret ρ H
  | .label _, Q, ρ, H => Q .normal ρ H
  | c, Q, ρ, H => CW n P c Q ρ H

theorem CW.mono {n : Nat} {P : Program} {c : Code} {Q Q' : Exit → En → Heap → Prop} {ρ : En} {H : Heap} (hq : ∀ e ρ H, Q e ρ H → Q' e ρ H) (h : CW n P c Q ρ H) : CW n P c Q' ρ H :=
  fun w0 w a h0 hw ha => wp_mono (h w0 w a h0 hw ha) fun _ _ _ ⟨hr, ρ', ha', hx⟩ => ⟨hr, ρ', ha', hq _ _ _ hx⟩

theorem cw_sound {n : Nat} {P : Program} (c : Code) : ∀ (Q : Exit → En → Heap → Prop) (ρ : En) (H : Heap), cw n P c Q ρ H → CW n P c Q ρ H := by
  induction c with
  | skip => intro Q ρ H h w0 w a h0 hw ha; subst hw; exact wp_skip ⟨h0, _, ha, h⟩
  | region id ops draw =>
    intro Q ρ H h w0 w a h0 hw ha
    subst hw
    cases draw with
    | true => exact h w0 w a h0 rfl ha
    | false =>
      refine wp_region (opsWp_sound _ ops.toList ?_ ρ w a h0 ha h)
      apply List.ext_getElem?
      intro i
      simp only [List.getElem?_map]
      by_cases hi : i < ops.size
      · simp [hi]
      · simp [hi]
  | seq x y ihx ihy =>
    intro Q ρ H h w0 w a h0 hw ha
    refine wp_seq (wp_mono (ihx _ _ _ h w0 w a h0 hw ha) ?_)
    rintro e a' w' ⟨hr, ρ', ha', hx⟩
    cases e with
    | normal => exact ihy Q ρ' w'.heap hx w0 w' a' hr rfl ha'
    | _ => exact ⟨hr, ρ', ha', hx⟩
  | cond c x y ihx ihy =>
    intro Q ρ H h w0 w a h0 hw ha
    simp only [cw] at h
    cases hv : ρ.ev c with
    | bool b =>
      rw [hv] at h
      refine wp_cond (t := b) (by rw [ha.ev]; exact hv) ?_
      cases b with
      | true => exact ihx Q ρ H (h.1 rfl) w0 w a h0 hw ha
      | false => exact ihy Q ρ H (h.2 rfl) w0 w a h0 hw ha
    | _ => rw [hv] at h; exact h.elim
  | block id c ih =>
    intro Q ρ H h w0 w a h0 hw ha
    refine wp_block (wp_mono (ih _ _ _ h w0 w a h0 hw ha) ?_)
    rintro e a' w' ⟨hr, ρ', ha', hx⟩
    cases e with
    | exit i =>
      simp only [blkQ] at hx
      simp only [Exit.inBlock]
      split <;> rename_i hi
      · rw [if_pos hi] at hx; exact ⟨hr, ρ', ha', hx⟩
      · rw [if_neg hi] at hx; exact ⟨hr, ρ', ha', hx⟩
    | _ => exact ⟨hr, ρ', ha', hx⟩
  | exit id => intro Q ρ H h w0 w a h0 hw ha; subst hw; exact wp_exit ⟨h0, _, ha, h⟩
  | ret => intro Q ρ H h w0 w a h0 hw ha; subst hw; exact wp_ret ⟨h0, _, ha, h⟩
  | label l => intro Q ρ H h w0 w a h0 hw ha; subst hw; exact wp_label ⟨h0, _, ha, h⟩
  | _ => intro Q ρ H h; exact h

/-- A loop: what holds at the head of a round with at most k rounds to come. -/
theorem cw_loop {n : Nat} {P : Program} {c : Code} {Q : Exit → En → Heap → Prop} (I : Nat → En → Heap → Prop)
    (round : ∀ k ρ H, I k ρ H → cw n P c (seqQ (fun ρ' H' => ∃ k', k' < k ∧ I k' ρ' H') Q) ρ H)
    {k : Nat} {ρ : En} {H : Heap} (h0 : I k ρ H) : CW n P (.loop c) Q ρ H := by
  intro w0 w a hr hw ha
  subst hw
  refine wp_loop_rounds (k + 1) ?_
  have key : ∀ m k, k < m → ∀ ρ (w : World) (a : Act), Rest w0 w → Ag n a ρ → I k ρ w.heap → Code.rounds P c (upQ n w0 Q) m a w := by
    intro m
    induction m with
    | zero => intro k hk; omega
    | succ m ih =>
      intro k hk ρ w a hr ha hi
      rw [rounds_succ]
      refine wp_mono (cw_sound c _ _ _ (round k ρ w.heap hi) w0 w a hr rfl ha) ?_
      rintro e a' w' ⟨hr', ρ', ha', hx⟩
      cases e with
      | normal =>
        obtain ⟨k', hk', hi'⟩ := hx
        exact ih k' (by omega) ρ' w' a' hr' ha' hi'
      | _ => exact ⟨hr', ρ', ha', hx⟩
  exact key (k + 1) k (by omega) ρ w a hr ha h0

/-! ### Results, and a function's body -/
def resF (ρ : En) : ResultVar → Sem Value
  | .tmp t => pure (ρ.get t)
  | .cell a t => do loadVar t (← asAddr (ρ.get a))
def resE (fn : Func) (ρ : En) : Sem Value := do
  let vs ← fn.results.mapM (resF ρ)
  pure (if h : vs.size = 1 then vs[0] else .tuple vs)
theorem resE_eq {n : Nat} {a : Act} {ρ : En} (h : Ag n a ρ) (fn : Func) : results fn a.tmps = resE fn ρ := by
  unfold results resE
  congr 1
  congr 1
  funext x
  cases x with
  | tmp t => simp only [h.2.1 t]; rfl
  | cell b t => simp only [h.2.1 b]; rfl

def bodyQ (P : Program) (fn : Func) (R : Value → Heap → Prop) (E : List PanicEntry → Heap → Prop) : Exit → En → Heap → Prop
  | .normal, ρ, H | .ret, ρ, H => ρ.ds = [] ∧ ∃ v, qrun P (resE fn ρ) H = some v ∧ R v H
  | .panic c, ρ, H => ρ.ds = [] ∧ E c H
  | _, _, _ => False

def enArgs (args : Array Value) : En := { get := fun t => args.getD t undef, ds := [] }

theorem hcalls_of {P : Program} {f : FuncId} {fn : Func} {c : Code} {args : Array Value} {H : Heap} {R : Value → Heap → Prop} {E : List PanicEntry → Heap → Prop}
    (hf : P.funcs[f]? = some fn) (hb : fn.body = some c) (hs : args.size ≤ fn.ntmps)
    (h : CW fn.ntmps P c (bodyQ P fn R E) (enArgs args) H) : HCalls P f args H R E := by
  intro w hw
  refine calls_of_wp hf hb ?_
  refine wp_mono (h w w _ (Rest.refl w) hw ⟨?_, fun t => ?_, rfl⟩) ?_
  · simp; omega
  · simp only [enArgs]
    rw [Array.getD_eq_getD_getElem?, Array.getD_eq_getD_getElem?, Array.getElem?_append]
    split
    · rfl
    · rename_i ht
      rw [Array.getElem?_eq_none (xs := args) (by omega), Array.getElem?_replicate]
      split <;> rfl
  · rintro e a' w' ⟨hr, ρ', ha', hx⟩
    cases e with
    | normal =>
      obtain ⟨hd, v, hv, hR⟩ := hx
      exact ⟨ha'.2.2.trans hd, v, by rw [resE_eq ha']; exact qrun_sound P _ w' v hv, hr, hR⟩
    | ret =>
      obtain ⟨hd, v, hv, hR⟩ := hx
      exact ⟨ha'.2.2.trans hd, v, by rw [resE_eq ha']; exact qrun_sound P _ w' v hv, hr, hR⟩
    | panic ch => exact ⟨ha'.2.2.trans hx.1, hr, hx.2⟩
    | _ => exact hx.elim

end Go.HL
