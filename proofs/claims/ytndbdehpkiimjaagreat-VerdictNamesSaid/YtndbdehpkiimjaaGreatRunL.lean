
/- Closed runs: code as a function of what its slots hold; annotations; that a run that ends well tells of the code. -/
import Derived.Test.YtndbdehpkiimjaaGreatRunU
namespace Go.Run
open Go.HL
set_option linter.unusedSimpArgs false
set_option linter.unusedVariables false
variable {σ : Nat → Value} {F : Nat → Option Obj} {φ : Phi} {A : AH} {H : Heap} {P : Program} {V : HV}
noncomputable section
set_option linter.unusedVariables false

/-! ### Conditions of code, over the model's own operations -/
def opG2 (n : Nat) (P : Program) (ops : Array Oper) (o : Oper) (ρ : En) (H : Heap) (K : En → Heap → Prop) (Q : Exit → En → Heap → Prop) : Prop :=
  match o.guard with
  | none => opWp n P o ρ H K Q
  | some (j, want) => guardW (slotOf ops ρ j) want (opWp n P o ρ H K Q) (K (ρ.put n o.dst undef) H)
theorem opG2_sound {n : Nat} {P : Program} {ops : Array Oper} {o : Oper} {ρ : En} {K : En → Heap → Prop} {Q : Exit → En → Heap → Prop} {w0 w : World} {a : Act}
    (h0 : HL.Rest w0 w) (ha : Ag n a ρ) (h : opG2 n P ops o ρ w.heap K Q) :
    if Region.wanted o (yielded ops a.tmps) then o.wp P a w (up n w0 K) (upQ n w0 Q) ∨ (o.asks P a w ∧ LetsOut (upQ n w0 Q)) else up n w0 K (a.put o.dst undef) w := by
  unfold opG2 at h
  unfold Region.wanted
  cases hg : o.guard with
  | none =>
    rw [hg] at h
    simp only [if_true]
    exact .inl (opWp_sound h0 ha h)
  | some g =>
    obtain ⟨j, want⟩ := g
    rw [hg] at h
    simp only [yield_eq ha]
    simp only [guardW] at h
    generalize slotOf ops ρ j = v at h
    cases v with
    | bool b =>
      by_cases hb : b = want
      · have e : (yieldV (.bool b) == some want) = true := by subst hb; simp [yieldV]
        rw [if_pos e]
        exact .inl (opWp_sound h0 ha (h.1 hb))
      · have hb' : b = !want := by cases b <;> cases want <;> simp_all
        have e : ¬ (yieldV (.bool b) == some want) = true := by simp [yieldV, hb]
        rw [if_neg e]
        exact ⟨h0, _, ha.put _ _, h.2 hb'⟩
    | _ => exact ⟨h0, _, ha.put _ _, h⟩
def opsWp2 (n : Nat) (P : Program) (ops : Array Oper) (Q : Exit → En → Heap → Prop) : List Oper → En → Heap → Prop
  | [], ρ, H => Q .normal ρ H
  | o :: rest, ρ, H => opG2 n P ops o ρ H (opsWp2 n P ops Q rest) Q
theorem opsWp2_sound {n : Nat} {P : Program} {ops : Array Oper} {Q : Exit → En → Heap → Prop} {w0 : World} :
    ∀ (l : List Nat) (ol : List Oper), l.map (ops[·]?) = ol.map some → ∀ (ρ : En) (w : World) (a : Act), HL.Rest w0 w → Ag n a ρ → opsWp2 n P ops Q ol ρ w.heap →
      wpOps P ops (upQ n w0 Q) l a w := by
  intro l
  induction l with
  | nil =>
    intro ol hol ρ w a h0 ha h
    cases ol with
    | nil => exact ⟨h0, _, ha, h⟩
    | cons _ _ => simp at hol
  | cons i l ih =>
    intro ol hol ρ w a h0 ha h
    cases ol with
    | nil => simp at hol
    | cons o ol =>
      simp only [List.map_cons, List.cons.injEq] at hol
      obtain ⟨ho, hol⟩ := hol
      rw [wpOps_cons]
      unfold wpOp
      rw [ho]
      have h' := opG2_sound h0 ha h
      simp only
      split
      · rename_i hw
        rw [if_pos hw] at h'
        exact h'.imp (Oper.wp_mono (fun a' w' ⟨hr, ρ', ha', hk⟩ => ih ol hol ρ' w' a' hr ha' hk)) id
      · rename_i hw
        rw [if_neg hw] at h'
        obtain ⟨hr, ρ', ha', hk⟩ := h'
        exact ih ol hol ρ' w _ hr ha' hk
def cw2 (n : Nat) (P : Program) : Code → (Exit → En → Heap → Prop) → En → Heap → Prop
  | .skip, Q, ρ, H => Q .normal ρ H
  | .region _ ops false, Q, ρ, H => opsWp2 n P ops Q ops.toList ρ H
  | .seq x y, Q, ρ, H => cw2 n P x (seqQ (cw2 n P y Q) Q) ρ H
  | .cond c x y, Q, ρ, H => condW (ρ.ev c) (cw2 n P x Q ρ H) (cw2 n P y Q ρ H)
  | .block id c, Q, ρ, H => cw2 n P c (blkQ id Q) ρ H
  | .exit id, Q, ρ, H => Q (.exit id) ρ H
  | .ret, Q, ρ, H => Q .ret ρ H
  | .label _, Q, ρ, H => Q .normal ρ H
  | c, Q, ρ, H => CW n P c Q ρ H
theorem cw2_sound {n : Nat} {P : Program} (c : Code) : ∀ (Q : Exit → En → Heap → Prop) (ρ : En) (H : Heap), cw2 n P c Q ρ H → CW n P c Q ρ H := by
  induction c with
  | skip => intro Q ρ H h w0 w a h0 hw ha; subst hw; exact wp_skip ⟨h0, _, ha, h⟩
  | region id ops draw =>
    intro Q ρ H h w0 w a h0 hw ha
    subst hw
    cases draw with
    | true => exact h w0 w a h0 rfl ha
    | false =>
      refine wp_region (opsWp2_sound _ ops.toList ?_ ρ w a h0 ha h)
      apply List.ext_getElem?
      intro i
      simp only [List.getElem?_map]
      by_cases hi : i < ops.size
      · simp [hi]
      · simp [hi]
  | seq x y ihx ihy =>
    intro Q ρ H h w0 w a h0 hw ha
    refine wp_seq (wp_mono (ihx _ _ _ h w0 w a h0 hw ha) ?_)
    rintro e a' w' ⟨hr, ρ', ha', hx⟩
    cases e with
    | normal => exact ihy Q ρ' w'.heap hx w0 w' a' hr rfl ha'
    | _ => exact ⟨hr, ρ', ha', hx⟩
  | cond c x y ihx ihy =>
    intro Q ρ H h w0 w a h0 hw ha
    simp only [cw2] at h
    cases hv : ρ.ev c with
    | bool b =>
      rw [hv] at h
      refine wp_cond (t := b) (by rw [ha.ev]; exact hv) ?_
      cases b with
      | true => exact ihx Q ρ H (h.1 rfl) w0 w a h0 hw ha
      | false => exact ihy Q ρ H (h.2 rfl) w0 w a h0 hw ha
    | _ => rw [hv] at h; exact h.elim
  | block id c ih =>
    intro Q ρ H h w0 w a h0 hw ha
    refine wp_block (wp_mono (ih _ _ _ h w0 w a h0 hw ha) ?_)
    rintro e a' w' ⟨hr, ρ', ha', hx⟩
    cases e with
    | exit i =>
      simp only [blkQ] at hx
      simp only [Exit.inBlock]
      split <;> rename_i hi
      · rw [if_pos hi] at hx; exact ⟨hr, ρ', ha', hx⟩
      · rw [if_neg hi] at hx; exact ⟨hr, ρ', ha', hx⟩
    | _ => exact ⟨hr, ρ', ha', hx⟩
  | exit id => intro Q ρ H h w0 w a h0 hw ha; subst hw; exact wp_exit ⟨h0, _, ha, h⟩
  | ret => intro Q ρ H h w0 w a h0 hw ha; subst hw; exact wp_ret ⟨h0, _, ha, h⟩
  | label l => intro Q ρ H h w0 w a h0 hw ha; subst hw; exact wp_label ⟨h0, _, ha, h⟩
  | _ => intro Q ρ H h; exact h
/-- A loop: what holds at the head of a round with at most k rounds to come. -/
theorem cw2_loop {n : Nat} {P : Program} {c : Code} {Q : Exit → En → Heap → Prop} (I : Nat → En → Heap → Prop)
    (round : ∀ k ρ H, I k ρ H → cw2 n P c (seqQ (fun ρ' H' => ∃ k', k' < k ∧ I k' ρ' H') Q) ρ H)
    {k : Nat} {ρ : En} {H : Heap} (h0 : I k ρ H) : CW n P (.loop c) Q ρ H := by
  intro w0 w a hr hw ha
  subst hw
  refine wp_loop_rounds (k + 1) ?_
  have key : ∀ m k, k < m → ∀ ρ (w : World) (a : Act), HL.Rest w0 w → Ag n a ρ → I k ρ w.heap → Code.rounds P c (upQ n w0 Q) m a w := by
    intro m
    induction m with
    | zero => intro k hk; omega
    | succ m ih =>
      intro k hk ρ w a hr ha hi
      rw [rounds_succ]
      refine wp_mono (cw2_sound c _ _ _ (round k ρ w.heap hi) w0 w a hr rfl ha) ?_
      rintro e a' w' ⟨hr', ρ', ha', hx⟩
      cases e with
      | normal =>
        obtain ⟨k', hk', hi'⟩ := hx
        exact ih k' (by omega) ρ' w' a' hr' ha' hi'
      | _ => exact ⟨hr', ρ', ha', hx⟩
  exact key (k + 1) k (by omega) ρ w a hr ha h0
/-- The contract of a Go function, by its body. -/
theorem callF_of2 {P : Program} {f : FuncId} {fn : Func} {c : Code} {args : List Value} {rs : List ResultVar} {n : Nat} {H : Heap} {R : Value → Heap → Prop} {E : List PanicEntry → Heap → Prop}
    (hf : P.funcs[f]? = some fn) (hb : fn.body = some c) (hn : fn.ntmps = n) (hr : fn.results = rs.toArray) (hm : (fn.name == "runtime.NumGoroutine") = false)
    (hs : decide (args.length ≤ n) = true)
    (h : CW n P c (retQ P rs R E) (enArgs args.toArray) H) : CallF P f args H R E := by
  unfold CallF callFunc
  rw [hwp_bind']
  show hwp P (match P.funcs[f]? with | none => _ | some fn => _) H _ _
  rw [hf]
  simp only [hm, Bool.false_eq_true, if_false, hb, Option.isNone_some]
  show HCalls P f args.toArray H R E
  subst hn
  refine hcalls_of hf hb (by simpa using hs) ?_
  exact CW.mono (retQ_sound hr) h

/-! ### Regions -/
abbrev runOps (T : TR) (Tb : FT) (ops : Array Oper) (l : List Oper) (ρ : Nat → AV) (A : AH) (k : Kt) : Bool :=
  @List.rec Oper (fun _ => (Nat → AV) → AH → Bool) (fun ρ A => k ρ A)
    (fun o _ ih ρ A => @Option.rec (Nat × Bool) (fun _ => Bool) (opA T Tb ρ A o.op fun v A' => ih (putA ρ o.dst v) A')
      (fun g => gdK (slotA ops ρ g.1) g.2 (fun k' => opA T Tb ρ A o.op k') A fun v A' => ih (putA ρ o.dst v) A') o.guard) l ρ A
theorem runOps_ok {T : TR} {Tb : FT} {ops : Array Oper} {n : Nat} {Q : Exit → En → Heap → Prop} {D : List Deferred} (hT : TTok P T) (hTb : TOK P Tb) {k : Kt} : ∀ (l : List Oper) (φ : Phi) (ρ : Nat → AV) (A : AH) (e : En) (H : Heap), dstsOK n l = true →
    Rel σ F φ A H → ENV σ φ D ρ e → KOK σ F D φ k (Q .normal) → runOps T Tb ops l ρ A k = true → opsWp2 n P ops Q l e H
  | [], φ, ρ, A, e, H, _, hr, he, hk, h => hk φ A ρ e H φ.le_refl hr he h
  | o :: l, φ, ρ, A, e, H, hd, hr, he, hk, h => by
    have hd : dstOK n o.dst = true ∧ dstsOK n l = true := by simpa [dstsOK] using hd
    have next : ∀ v A' φ' w H', φ.le φ' → Rel σ F φ' A' H' → VR σ φ' v w → runOps T Tb ops l (putA ρ o.dst v) A' k = true → opsWp2 n P ops Q l (e.put n o.dst w) H' :=
      fun v A' φ' w H' h1 h2 h3 h4 => runOps_ok hT hTb l φ' _ A' _ H' hd.2 h2 (he.put h1 hd.1 h3) (hk.mono h1) h4
    show opG2 n P ops o e H (opsWp2 n P ops Q l) Q
    unfold opG2
    cases hg : o.guard with
    | none =>
      have h : opA T Tb ρ A o.op (fun v A' => runOps T Tb ops l (putA ρ o.dst v) A' k) = true := by
        have : runOps T Tb ops (o :: l) ρ A k = @Option.rec (Nat × Bool) (fun _ => Bool) (opA T Tb ρ A o.op fun v A' => runOps T Tb ops l (putA ρ o.dst v) A' k)
          (fun g => gdK (slotA ops ρ g.1) g.2 (fun k' => opA T Tb ρ A o.op k') A fun v A' => runOps T Tb ops l (putA ρ o.dst v) A' k) o.guard := rfl
        rw [this, hg] at h; exact h
      exact opA_ok hT hTb hr he.er h next
    | some g =>
      obtain ⟨j, want⟩ := g
      have h : gdK (slotA ops ρ j) want (fun k' => opA T Tb ρ A o.op k') A (fun v A' => runOps T Tb ops l (putA ρ o.dst v) A' k) = true := by
        have : runOps T Tb ops (o :: l) ρ A k = @Option.rec (Nat × Bool) (fun _ => Bool) (opA T Tb ρ A o.op fun v A' => runOps T Tb ops l (putA ρ o.dst v) A' k)
          (fun g => gdK (slotA ops ρ g.1) g.2 (fun k' => opA T Tb ρ A o.op k') A fun v A' => runOps T Tb ops l (putA ρ o.dst v) A' k) o.guard := rfl
        rw [this, hg] at h; exact h
      exact gdK_sound (slotA_ok he.er j) h (fun h => opA_ok hT hTb hr he.er h next) (fun h => next _ _ _ _ _ φ.le_refl hr VR_und h)

/-! ### Functions of what live slots hold -/
abbrev JF : Nat → Type := fun n => @Nat.rec (fun _ => Type) (AH → Bool) (fun _ t => AV → t) n
abbrev jmp (l : List Nat) : JF l.length → Kt := @List.rec Nat (fun l => JF l.length → Kt) (fun g _ A => g A) (fun t _ ih g ρ A => ih (g (ρ t)) ρ A) l
abbrev cur (l : List Nat) (f : Kt) : (Nat → AV) → JF l.length := @List.rec Nat (fun l => (Nat → AV) → JF l.length) (fun ρ A => f ρ A) (fun t _ ih ρ x => ih (putA ρ (some t) x)) l
def keepS (l : List Nat) (ρ : Nat → AV) (r : Nat → AV) : Nat → AV := @List.rec Nat (fun _ => (Nat → AV) → Nat → AV) (fun r => r) (fun t _ ih r => ih (putA r (some t) (ρ t))) l r
theorem jmp_cur (f : Kt) (ρ : Nat → AV) (A : AH) : ∀ (l : List Nat) (r : Nat → AV), jmp l (cur l f r) ρ A = f (keepS l ρ r) A
  | [], r => rfl
  | t :: l, r => jmp_cur f ρ A l (putA r (some t) (ρ t))
theorem keepS_ok {D : List Deferred} {ρ : Nat → AV} {e : En} (h : ENV σ φ D ρ e) : ∀ (l : List Nat) (r : Nat → AV), (∀ t, VR σ φ (r t) (e.get t)) → ENV σ φ D (keepS l ρ r) e
  | [], r, hr => ⟨hr, h.ds⟩
  | t :: l, r, hr => keepS_ok h l _ fun u => by
    show VR σ φ (@Bool.rec (fun _ => AV) (r u) (ρ t) (Nat.beq u t)) _
    cases hb : Nat.beq u t with
    | true => have := Nat.eq_of_beq_eq_true hb; subst this; exact h.er u
    | false => exact hr u
abbrev noA : Nat → AV := fun _ => .u
theorem keep_no {D : List Deferred} {ρ : Nat → AV} {e : En} (h : ENV σ φ D ρ e) (l : List Nat) : ENV σ φ D (keepS l ρ noA) e := keepS_ok h l _ fun t => by simp [noA, VR]

/-! ### Code with annotations -/
structure KN where
  n : Kt
  r : Kt
  x : Nat → Kt
inductive An where
  | z
  | s (a b : An)
  | j (l : List Nat) (g : JF l.length) (a b : An)
  | c (a b : An)
  | b (a : An)
  | l (l : List Nat) (g : Nat → JF l.length) (m : Nat) (a : Nat → An)
  | d (p : Plan)
abbrev KN.to (kn : KN) (n : Kt) : KN := ⟨n, kn.r, kn.x⟩
abbrev KN.blk (kn : KN) (id : Nat) : KN := ⟨kn.n, kn.r, fun i => @Bool.rec (fun _ => Kt) (kn.x i) kn.n (Nat.beq i id)⟩
abbrev noK : Kt := fun _ _ => false
def cnd (c : AV) (p q : Bool) : Bool := c.on_b (fun b => @Bool.rec (fun _ => Bool) q p b) false
theorem cnd_sound {c : AV} {w : Value} {p q : Bool} {p' q' : Prop} (hc : VR σ φ c w) (h : cnd c p q = true) (hp : p = true → p') (hq : q = true → q') : condW w p' q' := by
  obtain ⟨b, rfl, rfl, h⟩ := on_b_sound hc h
  cases b with
  | true => exact ⟨fun _ => hp h, fun e => by cases e⟩
  | false => exact ⟨fun e => (by cases e), fun _ => hq h⟩
abbrev An.onD (a : An) (k : Plan → Kt) : Kt := @An.rec (fun _ => Kt) noK (fun _ _ _ _ => noK) (fun _ _ _ _ _ _ => noK) (fun _ _ _ _ => noK) (fun _ _ => noK) (fun _ _ _ _ _ => noK) k a
abbrev An.onS (an : An) (ks : An → An → Kt) (kj : (l : List Nat) → JF l.length → An → Kt) : Kt := @An.rec (fun _ => Kt) noK (fun a b _ _ => ks a b) (fun l g a _ _ _ => kj l g a) (fun _ _ _ _ => noK) (fun _ _ => noK) (fun _ _ _ _ _ => noK) (fun _ => noK) an
abbrev An.onC (an : An) (k : An → An → Kt) : Kt := @An.rec (fun _ => Kt) noK (fun _ _ _ _ => noK) (fun _ _ _ _ _ _ => noK) (fun a b _ _ => k a b) (fun _ _ => noK) (fun _ _ _ _ _ => noK) (fun _ => noK) an
abbrev An.onB (an : An) (k : An → Kt) : Kt := @An.rec (fun _ => Kt) noK (fun _ _ _ _ => noK) (fun _ _ _ _ _ _ => noK) (fun _ _ _ _ => noK) (fun a _ => k a) (fun _ _ _ _ _ => noK) (fun _ => noK) an
abbrev An.onL (an : An) (k : (l : List Nat) → (Nat → JF l.length) → Nat → Kt) : Kt := @An.rec (fun _ => Kt) noK (fun _ _ _ _ => noK) (fun _ _ _ _ _ _ => noK) (fun _ _ _ _ => noK) (fun _ _ => noK) (fun l g m _ _ => k l g m) (fun _ => noK) an
abbrev runC (T : TR) (Tb : FT) (c : Code) : An → KN → Kt :=
  @Code.rec (fun _ => An → KN → Kt)
    (fun _ kn => kn.n)
    (fun _ ops draw an kn => @Bool.rec (fun _ => Kt) (fun ρ A => runOps T Tb ops ops.toList ρ A kn.n) (an.onD fun p ρ A => runD T Tb ops.toList p ρ A kn.n) draw)
    (fun _ _ ix iy an kn => an.onS (fun a b => ix a (kn.to (iy b kn))) (fun l g a => ix a (kn.to (jmp l g))))
    (fun c _ _ ix iy an kn => an.onC fun a b ρ A => cnd (ev ρ c) (ix a kn ρ A) (iy b kn ρ A))
    (fun id _ ix an kn => an.onB fun a => ix a (kn.blk id))
    (fun _ ix an kn => an.onL fun l g m => jmp l (g m))
    (fun _ _ _ _ _ _ _ _ => noK)
    (fun i _ kn => kn.x i)
    (fun _ _ _ _ => noK)
    (fun _ _ kn => kn.n)
    (fun _ _ _ => noK)
    (fun _ kn => kn.r)
    (fun _ _ _ => noK) c
def Good (T : TR) (Tb : FT) (n : Nat) : Code → An → KN → Prop
  | .region _ ops false, _, _ => dstsOK n ops.toList = true
  | .region _ ops true, .d p, _ => dstsOK n ops.toList = true ∧ drawOK2 ops.toList p = true
  | .seq x y, .s a b, kn => Good T Tb n x a (kn.to (runC T Tb y b kn)) ∧ Good T Tb n y b kn
  | .seq x y, .j l g a b, kn => (∀ ρ A, jmp l g ρ A = runC T Tb y b kn (keepS l ρ noA) A) ∧ Good T Tb n x a (kn.to (jmp l g)) ∧ Good T Tb n y b kn
  | .cond c x y, .c a b, kn => Good T Tb n x a kn ∧ Good T Tb n y b kn
  | .block id x, .b a, kn => Good T Tb n x a (kn.blk id)
  | .loop x, .l l g m a, kn => (∀ ρ A, jmp l (g 0) ρ A = false) ∧ ∀ m, (∀ ρ A, jmp l (g (m + 1)) ρ A = runC T Tb x (a m) (kn.to (jmp l (g m))) (keepS l ρ noA) A) ∧ Good T Tb n x (a m) (kn.to (jmp l (g m)))
  | _, _, _ => True
structure KQ (σ : Nat → Value) (F : Nat → Option Obj) (D : List Deferred) (φ0 : Phi) (kn : KN) (Q : Exit → En → Heap → Prop) : Prop where
  n : KOK σ F D φ0 kn.n (Q .normal)
  r : KOK σ F D φ0 kn.r (Q .ret)
  x : ∀ i, KOK σ F D φ0 (kn.x i) (Q (.exit i))
  p : PanOK Q
theorem KQ.mono {D : List Deferred} {φ φ' : Phi} {kn : KN} {Q : Exit → En → Heap → Prop} (h : KQ σ F D φ kn Q) (hl : φ.le φ') : KQ σ F D φ' kn Q := ⟨h.n.mono hl, h.r.mono hl, fun i => (h.x i).mono hl, h.p⟩
theorem run_ok {D : List Deferred} {T : TR} {Tb : FT} {n : Nat} (hm : P.follows .mixedOrders = true) (hT : TTok P T) (hTb : TOK P Tb) : ∀ (c : Code) (an : An) (kn : KN), Good T Tb n c an kn → ∀ (Q : Exit → En → Heap → Prop) (φ : Phi), KQ σ F D φ kn Q →
    KOK σ F D φ (runC T Tb c an kn) (cw2 n P c Q) := by
  intro c
  induction c with
  | skip => intro an kn hg Q φ hk φ' A ρ e H h1 h2 h3 h4; exact hk.n φ' A ρ e H h1 h2 h3 (by cases an <;> exact h4)
  | label l => intro an kn hg Q φ hk φ' A ρ e H h1 h2 h3 h4; exact hk.n φ' A ρ e H h1 h2 h3 (by cases an <;> exact h4)
  | ret => intro an kn hg Q φ hk φ' A ρ e H h1 h2 h3 h4; exact hk.r φ' A ρ e H h1 h2 h3 (by cases an <;> exact h4)
  | exit i => intro an kn hg Q φ hk φ' A ρ e H h1 h2 h3 h4; exact hk.x i φ' A ρ e H h1 h2 h3 (by cases an <;> exact h4)
  | region id ops draw =>
    intro an kn hg Q φ hk φ' A ρ e H h1 h2 h3 h4
    cases draw with
    | false =>
      have hg : dstsOK n ops.toList = true := by cases an <;> exact hg
      have h4 : runOps T Tb ops ops.toList ρ A kn.n = true := by cases an <;> exact h4
      exact runOps_ok hT hTb ops.toList φ' ρ A e H hg h2 h3 (hk.n.mono h1) h4
    | true =>
      cases an with
      | d p =>
        obtain ⟨g1, g2⟩ := hg
        have := runD_ok (id := id) hm hT hTb g1 g2 hk.p h2 h3 (hk.n.mono h1) h4
        show CW n P (.region id ops true) Q e H
        simpa using this
      | _ => exact absurd h4 (by simp [runC, noK])
  | seq x y ihx ihy =>
    intro an kn hg Q φ hk φ' A ρ e H h1 h2 h3 h4
    cases an with
    | s a b =>
      show cw2 n P x (seqQ (cw2 n P y Q) Q) e H
      refine ihx a _ hg.1 (seqQ (cw2 n P y Q) Q) φ ⟨?_, hk.r, hk.x, ?_⟩ φ' A ρ e H h1 h2 h3 h4
      · exact ihy b kn hg.2 Q φ hk
      · exact fun c ρ ρ' H => hk.p c ρ ρ' H
    | j l g a b =>
      obtain ⟨g1, g2, g3⟩ := hg
      show cw2 n P x (seqQ (cw2 n P y Q) Q) e H
      refine ihx a _ g2 (seqQ (cw2 n P y Q) Q) φ ⟨?_, hk.r, hk.x, ?_⟩ φ' A ρ e H h1 h2 h3 h4
      · intro ψ A ρ e H h1 h2 h3 h4
        have h4 : jmp l g ρ A = true := h4
        rw [g1] at h4
        exact ihy b kn g3 Q φ hk ψ A _ e H h1 h2 (keep_no h3 l) h4
      · exact fun c ρ ρ' H => hk.p c ρ ρ' H
    | _ => exact absurd h4 (by simp [runC, noK])
  | cond c x y ihx ihy =>
    intro an kn hg Q φ hk φ' A ρ e H h1 h2 h3 h4
    cases an with
    | c a b => exact cnd_sound (ev_ok h3.er c) h4 (fun h => ihx a kn hg.1 Q φ hk φ' A ρ e H h1 h2 h3 h) (fun h => ihy b kn hg.2 Q φ hk φ' A ρ e H h1 h2 h3 h)
    | _ => exact absurd h4 (by simp [runC, noK])
  | block id x ih =>
    intro an kn hg Q φ hk φ' A ρ e H h1 h2 h3 h4
    cases an with
    | b a =>
      show cw2 n P x (blkQ id Q) e H
      refine ih a _ hg (blkQ id Q) φ ⟨hk.n, hk.r, ?_, ?_⟩ φ' A ρ e H h1 h2 h3 h4
      · intro i ψ A ρ e H h1 h2 h3 h4
        have h4 : (@Bool.rec (fun _ => Kt) (kn.x i) kn.n (Nat.beq i id)) ρ A = true := h4
        show (if i = id then Q .normal e H else Q (.exit i) e H)
        cases hb : Nat.beq i id with
        | true =>
          rw [hb] at h4
          rw [if_pos (Nat.eq_of_beq_eq_true hb)]
          exact hk.n ψ A ρ e H h1 h2 h3 h4
        | false =>
          rw [hb] at h4
          rw [if_neg (beq_f hb)]
          exact hk.x i ψ A ρ e H h1 h2 h3 h4
      · exact fun c ρ ρ' H => hk.p c ρ ρ' H
    | _ => exact absurd h4 (by simp [runC, noK])
  | loop x ih =>
    intro an kn hg Q φ hk φ' A ρ e H h1 h2 h3 h4
    cases an with
    | l l g m a =>
      obtain ⟨g0, gs⟩ := hg
      refine cw2_loop (fun k e H => ∃ ψ A ρ, φ.le ψ ∧ Rel σ F ψ A H ∧ ENV σ ψ D ρ e ∧ jmp l (g k) ρ A = true) ?_ (k := m) ⟨φ', A, ρ, h1, h2, h3, h4⟩
      rintro k e H ⟨ψ, A, ρ, i1, i2, i3, i4⟩
      cases k with
      | zero => rw [g0] at i4; cases i4
      | succ k =>
        obtain ⟨s1, s2⟩ := gs k
        rw [s1] at i4
        refine ih (a k) _ s2 (seqQ (fun e' H' => ∃ k', k' < k + 1 ∧ ∃ ψ A ρ, φ.le ψ ∧ Rel σ F ψ A H' ∧ ENV σ ψ D ρ e' ∧ jmp l (g k') ρ A = true) Q) φ ⟨?_, hk.r, hk.x, ?_⟩ ψ A _ e H i1 i2 (keep_no i3 l) i4
        · intro ψ A ρ e H h1 h2 h3 h4
          exact ⟨k, Nat.lt_succ_self k, ψ, A, ρ, h1, h2, h3, h4⟩
        · exact fun c ρ ρ' H => hk.p c ρ ρ' H
    | _ => exact absurd h4 (by simp [runC, noK])
  | _ => intro an kn hg Q φ hk φ' A ρ e H h1 h2 h3 h4; exact absurd h4 (by cases an <;> simp [runC, noK])

/-! ### Functions -/
abbrev retA (T : TR) (rs : List ResultVar) (ρ : Nat → AV) (A : AH) (k : List AV → Bool) : Bool :=
  @List.rec ResultVar (fun _ => (List AV → Bool) → Bool) (fun k => k []) (fun r _ ih k => match r with
    | .tmp t => ih fun vs => k (ρ t :: vs)
    | .cell a t => ldT T A t (ρ a) fun v => ih fun vs => k (v :: vs)) rs k
abbrev tupA (l : List AV) : AV := @List.rec AV (fun _ => AV) (.t []) (fun v r _ => @List.rec AV (fun _ => AV) v (fun _ _ _ => .t (v :: r)) r) l
theorem tupA_ok {l : List AV} {ws : List Value} (h : VRl σ φ l ws) : VR σ φ (tupA l) (tupV ws) := by
  match l, h with
  | [], h => simp only [VRl] at h; subst h; exact VR_und
  | [v], h => simp only [VRl] at h; obtain ⟨w, ws', rfl, h1, rfl⟩ := h; exact h1
  | v :: v2 :: l, h =>
    have h0 := h
    simp only [VRl] at h
    obtain ⟨w, ws', rfl, h1, w2, ws2, rfl, h2, h3⟩ := h
    show VR σ φ (.t (v :: v2 :: l)) (.tuple (w :: w2 :: ws2).toArray)
    simp only [VR]
    exact ⟨_, rfl, by simpa using h0⟩
theorem retA_ok {T : TR} (hT : TTok P T) (hr : Rel σ F φ A H) {ρ : Nat → AV} {e : En} (he : ER σ φ ρ e) : ∀ (rs : List ResultVar) (k : List AV → Bool) (R : List Value → Prop), retA T rs ρ A k = true →
    (∀ l ws, VRl σ φ l ws → k l = true → R ws) → resL P e H rs R
  | [], k, R, h, hR => hR [] [] (by simp [VRl]) h
  | .tmp t :: rs, k, R, h, hR => retA_ok hT hr he rs _ _ h fun l ws h1 h2 => hR _ _ (by simp only [VRl]; exact ⟨_, _, rfl, he t, h1⟩) h2
  | .cell a t :: rs, k, R, h, hR => by
    obtain ⟨ad, v, r, h1, h2, h3, h4⟩ := ldT_ok hT hr (he a) h
    unfold resL
    rw [h1]
    show someW (loadA P (full H) t ad) _
    rw [h2]
    exact retA_ok hT hr he rs _ _ h4 fun l ws h5 h6 => hR _ _ (by simp only [VRl]; exact ⟨_, _, rfl, h3, h5⟩) h6
abbrev knK (T : TR) (rs : List ResultVar) (K : AV → AH → Bool) : KN :=
  ⟨fun ρ A => retA T rs ρ A fun l => K (tupA l) A, fun ρ A => retA T rs ρ A fun l => K (tupA l) A, fun _ => noK⟩
abbrev curF (f : (Nat → AV) → AH → (AV → AH → Bool) → Bool) (n : Nat) : Nat → (Nat → AV) → FF n :=
  @Nat.rec (fun n => Nat → (Nat → AV) → FF n) (fun _ ρ A K => f ρ A K) (fun _ ih t ρ x => ih (Nat.succ t) (putA ρ (some t) x)) n
theorem appF_cur (f : (Nat → AV) → AH → (AV → AH → Bool) → Bool) {K : AV → AH → Bool} : ∀ (n t : Nat) (ρ : Nat → AV) (l : List AV) (ws : List Value) (e : Nat → Value), appF n (curF f n t ρ) l A K = true → VRl σ φ l ws → (∀ u, VR σ φ (ρ u) (e u)) → (∀ j w, ws[j]? = some w → e (t + j) = w) →
    ∃ ρ', (∀ u, VR σ φ (ρ' u) (e u)) ∧ f ρ' A K = true
  | 0, t, ρ, [], ws, e, h, hv, he, hw => ⟨ρ, he, h⟩
  | 0, t, ρ, _ :: _, ws, e, h, hv, he, hw => by cases h
  | n + 1, t, ρ, [], ws, e, h, hv, he, hw => by cases h
  | n + 1, t, ρ, v :: l, ws, e, h, hv, he, hw => by
    simp only [VRl] at hv
    obtain ⟨w, ws', rfl, h1, h2⟩ := hv
    refine appF_cur f n (t + 1) (putA ρ (some t) v) l ws' e h h2 ?_ fun j w' hj => ?_
    · intro u
      show VR σ φ (@Bool.rec (fun _ => AV) (ρ u) v (Nat.beq u t)) _
      cases hb : Nat.beq u t with
      | true =>
        have := Nat.eq_of_beq_eq_true hb
        subst this
        have := hw 0 w rfl
        rw [Nat.add_zero] at this
        rw [this]; exact h1
      | false => exact he u
    · have := hw (j + 1) w' (by simpa using hj)
      rw [← this]; congr 1; omega
/-- The contract of a function, by its run. -/
theorem fok_of {f : Nat} {fn : Func} {c : Code} {rs : List ResultVar} {n m : Nat} {T : TR} {Tb : FT} {an : (AV → AH → Bool) → An} {G : FF m} (hm : P.follows .mixedOrders = true) (hT : TTok P T) (hTb : TOK P Tb)
    (hf : P.funcs[f]? = some fn) (hb : fn.body = some c) (hn : fn.ntmps = n) (hrs : fn.results = rs.toArray) (hname : (fn.name == "runtime.NumGoroutine") = false) (hmn : Nat.ble m n = true)
    (hF : G = curF (fun ρ A K => runC T Tb c (an K) (knK T rs K) ρ A) m 0 noA) (hg : ∀ K, Good T Tb n c (an K) (knK T rs K)) : FOK P f m G := by
  intro σ F φ A H args ws K hr hv hk
  rw [hF] at hk
  have hlen := appF_len m G args (by rw [hF]; exact hk)
  obtain ⟨ρ, h1, h2⟩ := appF_cur (σ := σ) (φ := φ) (fun ρ A K => runC T Tb c (an K) (knK T rs K) ρ A) m 0 noA args ws (enArgs ws.toArray).get hk hv (fun u => by simp [noA, VR]) (fun j w hj => by
    simp only [enArgs, Nat.zero_add]
    rw [Array.getD_eq_getD_getElem?]
    simp [hj])
  refine callF_of2 hf hb hn hrs hname (by have := hv.length; have := Nat.le_of_ble_eq_true hmn; simp; omega) (cw2_sound c _ _ _ ?_)
  have ret : KOK σ F [] φ (fun ρ A => retA T rs ρ A fun l => K (tupA l) A) fun e H => e.ds = [] ∧ resL P e H rs fun vs => RK σ F φ K (tupV vs) H := by
    intro φ' A ρ e H h1 h2 h3 h4
    exact ⟨h3.ds, retA_ok hT h2 h3.er rs _ _ h4 fun l ws h5 h6 => ⟨φ', tupA l, A, h1, tupA_ok h5, h2, h6⟩⟩
  refine run_ok hm hT hTb c (an K) (knK T rs K) (hg K) _ φ ⟨ret, ret, ?_, ?_⟩ φ A ρ (enArgs ws.toArray) H φ.le_refl hr ⟨h1, rfl⟩ h2
  · intro i φ' A ρ e H _ _ _ h; cases h
  · intro c ρ ρ' H hd h
    exact ⟨hd ▸ h.1, h.2⟩
end
end Go.Run
