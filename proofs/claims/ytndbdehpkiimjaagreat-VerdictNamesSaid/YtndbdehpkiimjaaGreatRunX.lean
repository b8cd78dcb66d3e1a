
/- Closed runs: a function that puts one call off until it ends. -/
import Derived.Test.YtndbdehpkiimjaaGreatRunV
import Derived.Defers
namespace Go.Run
open Go.HL
set_option linter.unusedSimpArgs false
set_option linter.unusedVariables false
variable {σ : Nat → Value} {F : Nat → Option Obj} {φ : Phi} {A : AH} {H : Heap} {P : Program} {V : HV}
noncomputable section
set_option linter.unusedVariables false

/-! ### Parts of code -/
abbrev sqL (c : Code) : Code := @Code.rec (fun _ => Code) .skip (fun _ _ _ => .skip) (fun a _ _ _ => a) (fun _ _ _ _ _ => .skip) (fun _ _ _ => .skip) (fun _ _ => .skip) (fun _ _ _ _ _ _ => .skip) (fun _ => .skip) (fun _ _ => .skip) (fun _ => .skip) (fun _ => .skip) .skip (fun _ => .skip) c
abbrev sqR (c : Code) : Code := @Code.rec (fun _ => Code) .skip (fun _ _ _ => .skip) (fun _ b _ _ => b) (fun _ _ _ _ _ => .skip) (fun _ _ _ => .skip) (fun _ _ => .skip) (fun _ _ _ _ _ _ => .skip) (fun _ => .skip) (fun _ _ => .skip) (fun _ => .skip) (fun _ => .skip) .skip (fun _ => .skip) c
abbrev regO (c : Code) : Array Oper := @Code.rec (fun _ => Array Oper) #[] (fun _ o _ => o) (fun _ _ _ _ => #[]) (fun _ _ _ _ _ => #[]) (fun _ _ _ => #[]) (fun _ _ => #[]) (fun _ _ _ _ _ _ => #[]) (fun _ => #[]) (fun _ _ => #[]) (fun _ => #[]) (fun _ => #[]) #[] (fun _ => #[]) c
abbrev dfA (l : List Oper) : List Operand := match l with
  | [] => []
  | [o] => (match o.op with | .defer c => c.args.toList | _ => [])
  | _ :: l => dfA l
/-- The operand that names the call that is put off. -/
abbrev dfC (l : List Oper) : Operand := match l with
  | [] => .tmp 0
  | [o] => (match o.op with | .defer c => (match c.callee with | .value f => f | _ => .tmp 0) | _ => .tmp 0)
  | _ :: l => dfC l
/-- A call at the normal end of another one. -/
def DCall (P : Program) (g : FuncId) (args : Array Value) (H : Heap) (R : Heap → Prop) : Prop :=
  ∀ (w : World), w.heap = H → CallsD P g args .returning w fun e u' w' => u' = .returning ∧ HL.Rest w w' ∧ (∃ v, e = .returned v) ∧ R w'.heap
theorem dcall_of {g : FuncId} {fn : Func} {c : Code} {args : Array Value} {R : Heap → Prop}
    (hf : P.funcs[g]? = some fn) (hb : fn.body = some c) (hs : args.size ≤ fn.ntmps)
    (h : CW fn.ntmps P c (bodyQ P fn (fun _ H => R H) (fun _ _ => False)) (enArgs args) H) : DCall P g args H R := by
  intro w hw
  refine CallsD.mono (callsD_of_wp (R := fun e w' => HL.Rest w w' ∧ (∃ v, e = .returned v) ∧ R w'.heap) hf hb ?_) fun e u' w' ⟨h1, h2⟩ => ⟨h1, h2⟩
  refine wp_mono (h w w _ (Rest.refl w) hw ⟨?_, fun t => ?_, rfl⟩) ?_
  · simp; omega
  · simp only [enArgs]
    rw [Array.getD_eq_getD_getElem?, Array.getD_eq_getD_getElem?, Array.getElem?_append]
    split
    · rfl
    · rename_i ht
      rw [Array.getElem?_eq_none (xs := args) (by omega), Array.getElem?_replicate]
      split <;> rfl
  · rintro e a' w' ⟨hr, ρ', ha', hx⟩
    cases e with
    | normal =>
      obtain ⟨hd, v, hv, hR⟩ := hx
      exact ⟨ha'.2.2.trans hd, v, by rw [resE_eq ha']; exact qrun_sound P _ w' v hv, hr, ⟨v, rfl⟩, hR⟩
    | ret =>
      obtain ⟨hd, v, hv, hR⟩ := hx
      exact ⟨ha'.2.2.trans hd, v, by rw [resE_eq ha']; exact qrun_sound P _ w' v hv, hr, ⟨v, rfl⟩, hR⟩
    | panic ch => exact hx.2.elim
    | _ => exact hx.elim
def DOK (P : Program) (f n : Nat) (g : FF n) : Prop :=
  ∀ (σ : Nat → Value) (F : Nat → Option Obj) (φ : Phi) (A : AH) (H : Heap) (args : List AV) (ws : List Value) (K : AV → AH → Bool), Rel σ F φ A H → VRl σ φ args ws → appF n g args A K = true → DCall P f ws.toArray H fun H' => ∃ v, RK σ F φ K v H'
theorem dok_of {f : Nat} {fn : Func} {c : Code} {rs : List ResultVar} {n m : Nat} {T : TR} {Tb : FT} {an : (AV → AH → Bool) → An} {G : FF m} (hm : P.follows .mixedOrders = true) (hT : TTok P T) (hTb : TOK P Tb)
    (hf : P.funcs[f]? = some fn) (hb : fn.body = some c) (hn : fn.ntmps = n) (hrs : fn.results = rs.toArray) (hmn : Nat.ble m n = true)
    (hF : G = curF (fun ρ A K => runC T Tb c (an K) (knK T rs K) ρ A) m 0 noA) (hg : ∀ K, Good T Tb n c (an K) (knK T rs K)) : DOK P f m G := by
  intro σ F φ A H args ws K hr hv hk
  rw [hF] at hk
  have hlen := appF_len m G args (by rw [hF]; exact hk)
  obtain ⟨ρ, h1, h2⟩ := appF_cur (σ := σ) (φ := φ) (fun ρ A K => runC T Tb c (an K) (knK T rs K) ρ A) m 0 noA args ws (enArgs ws.toArray).get hk hv (fun u => by simp [noA, VR]) (fun j w hj => by
    simp only [enArgs, Nat.zero_add]
    rw [Array.getD_eq_getD_getElem?]
    simp [hj])
  have hsz : ws.length ≤ n := by have := hv.length; have := Nat.le_of_ble_eq_true hmn; omega
  subst hn
  refine dcall_of hf hb (by simpa using hsz) ?_
  refine CW.mono (retQ_sound (R := fun _ H' => ∃ v, RK σ F φ K v H') hrs) (cw2_sound c _ _ _ ?_)
  have ret : KOK σ F [] φ (fun ρ A => retA T rs ρ A fun l => K (tupA l) A) fun e H => e.ds = [] ∧ resL P e H rs fun vs => ∃ v, RK σ F φ K v H := by
    intro φ' A ρ e H h1 h2 h3 h4
    exact ⟨h3.ds, retA_ok hT h2 h3.er rs _ _ h4 fun l ws h5 h6 => ⟨_, φ', tupA l, A, h1, tupA_ok h5, h2, h6⟩⟩
  refine run_ok hm hT hTb c (an K) (knK T rs K) (hg K) _ φ ⟨ret, ret, ?_, ?_⟩ φ A ρ (enArgs ws.toArray) H φ.le_refl hr ⟨h1, rfl⟩ h2
  · intro i φ' A ρ e H _ _ _ h; cases h
  · intro c ρ ρ' H hd h
    exact ⟨hd ▸ h.1, h.2⟩
theorem dok_col {f : Nat} {fn : Func} {c : Code} {rs : List ResultVar} {n m : Nat} {T : TR} {Tb : FT} {an : (AV → AH → Bool) → An} {G : FF m} (hm : P.follows .mixedOrders = true) (hT : TTok P T) (hTb : TOK P Tb)
    (hf : P.funcs[f]? = some fn) (hb : fn.body = some c) (hn : fn.ntmps = n) (hrs : fn.results = rs.toArray) (hname : (fn.name == "runtime.NumGoroutine") = false) (hmn : Nat.ble m n = true)
    (hF : G = curF (fun ρ A K => runC T Tb c (an K) (knK T rs K) ρ A) m 0 noA) (hg : (fun K => col T Tb n true c (an K) (knK T rs K)) = fun K => col T Tb n false c (an K) (knK T rs K)) : DOK P f m G :=
  dok_of hm hT hTb hf hb hn hrs hmn hF fun K => col_good _ _ _ (congrFun hg K)

/-! ### The function itself -/
def dfrQ (P : Program) (rs : List ResultVar) (R : Value → Heap → Prop) : Exit → En → Heap → Prop
  | .normal, ρ, H | .ret, ρ, H => ∃ g cap as fng, ρ.ds = [⟨.fn (.func g) cap, as⟩] ∧ P.funcs[g]? = some fng ∧ fng.body.isSome = true ∧ (fng.name == "runtime.NumGoroutine") = false ∧
      DCall P g (as ++ cap) H fun H' => resL P ρ H' rs fun vs => R (tupV vs) H'
  | _, _, _ => False
theorem resV {fn : Func} {rs : List ResultVar} {R : Value → Heap → Prop} {ρ : En} (hr : fn.results = rs.toArray) (h : resL P ρ H rs fun vs => R (tupV vs) H) : ∃ v, qrun P (resE fn ρ) H = some v ∧ R v H := by
  have := retQ_sound (P := P) (R := R) (E := fun _ _ => False) hr .normal { ρ with ds := [] } H ⟨rfl, by
    have key : ∀ (rs : List ResultVar) (k : List Value → Prop), resL P ρ H rs k → resL P { ρ with ds := [] } H rs k := by
      intro rs
      induction rs with
      | nil => intro k h; exact h
      | cons r rs ih =>
        intro k h
        cases r with
        | tmp t => exact ih _ h
        | cell a t =>
          unfold resL at h ⊢
          unfold ptrW at h ⊢
          show (match ρ.get a with | .pointer (some ad) => _ | _ => _)
          split at h
          · rename_i ad ha
            simp only [ha]
            rw [someW_iff] at h ⊢
            obtain ⟨v, h1, h2⟩ := h
            exact ⟨v, h1, ih _ h2⟩
          · exact h.elim
    exact key rs _ h⟩
  obtain ⟨_, v, h1, h2⟩ := this
  exact ⟨v, h1, h2⟩
theorem callF_dfr {f : FuncId} {fn : Func} {c : Code} {args : List Value} {rs : List ResultVar} {n : Nat} {R : Value → Heap → Prop}
    (hf : P.funcs[f]? = some fn) (hb : fn.body = some c) (hn : fn.ntmps = n) (hr : fn.results = rs.toArray) (hm : (fn.name == "runtime.NumGoroutine") = false)
    (hs : decide (args.length ≤ n) = true)
    (h : CW n P c (dfrQ P rs R) (enArgs args.toArray) H) : CallF P f args H R NoP := by
  unfold CallF callFunc
  rw [hwp_bind']
  show hwp P (match P.funcs[f]? with | none => _ | some fn => _) H _ _
  rw [hf]
  simp only [hm, Bool.false_eq_true, if_false, hb, Option.isNone_some]
  show HCalls P f args.toArray H R NoP
  subst hn
  intro w hw
  refine calls_of_wp_defers hf hb ?_
  refine wp_mono (h w w _ (Rest.refl w) hw ⟨?_, fun t => ?_, rfl⟩) ?_
  · have := of_decide_eq_true hs; simp; omega
  · simp only [enArgs]
    rw [Array.getD_eq_getD_getElem?, Array.getD_eq_getD_getElem?, Array.getElem?_append]
    split
    · rfl
    · rename_i ht
      rw [Array.getElem?_eq_none (xs := args.toArray) (by omega), Array.getElem?_replicate]
      split <;> rfl
  · have key : ∀ (a' : Act) (w' : World) (ρ' : En), HL.Rest w w' → Ag fn.ntmps a' ρ' → dfrQ P rs R .ret ρ' w'.heap → Leaves P fn a'.tmps (fun e w' => HL.Rest w w' ∧ match e with
        | .returned v => R v w'.heap
        | .panicked c => NoP c w'.heap
        | .outgrown => False) a'.defers .returning w' := by
      rintro a' w' ρ' hrest ha' ⟨g, cap, as, fng, hd, hfg, hbg, hng, hcall⟩
      rw [ha'.2.2, hd]
      refine ⟨by simp, .func g, cap, g, as ++ cap, rfl, ?_, (hcall w' rfl).mono ?_⟩
      · have : qrun P (invoke (.fn (.func g) cap) as) w'.heap = some (.enter g (as ++ cap)) := by
          show qrun P (callFunc g (as ++ cap)) w'.heap = _
          unfold callFunc
          rw [qrun_bind']
          show qrun P (match P.funcs[g]? with | none => _ | some fn => _) _ = _
          rw [hfg]
          cases hb' : fng.body with
          | none => rw [hb'] at hbg; cases hbg
          | some c' => simp only [hng, Bool.false_eq_true, if_false, hb', Option.isNone_some]; rfl
        exact qrun_sound P _ w' _ this
      · rintro e u' w'' ⟨rfl, hr1, ⟨v, rfl⟩, hR⟩
        obtain ⟨v', hv', hR'⟩ := resV hr hR
        exact ⟨v', by rw [resE_eq ha']; exact qrun_sound P _ w'' v' hv', hrest.trans hr1, hR'⟩
    rintro e a' w' ⟨hrest, ρ', ha', hx⟩
    cases e with
    | normal => exact key a' w' ρ' hrest ha' hx
    | ret => exact key a' w' ρ' hrest ha' hx
    | _ => exact hx.elim
abbrev isTmp (r : ResultVar) : Bool := match r with | .tmp _ => true | _ => false
theorem resL_tmps {ρ : En} {H H' : Heap} : ∀ (rs : List ResultVar) (k : List Value → Prop), rs.all isTmp = true → resL P ρ H rs k → resL P ρ H' rs k
  | [], k, _, h => h
  | .tmp t :: rs, k, ha, h => resL_tmps (H := H) rs _ (by simpa [isTmp] using ha) h
  | .cell _ _ :: _, k, ha, h => by simp [isTmp] at ha
theorem fok_dfr {f g id nd : Nat} {fn fng : Func} {c0 c2 : Code} {opsD : Array Oper} {l0 : List Oper} {dargs : Array Operand} {ats : Array TypeId} {ty : TypeId} {pos : String} {aft : Array Edge} {rs : List ResultVar} {n m : Nat} {T : TR} {Tb : FT} {a0 : An} {a2 : (AV → AH → Bool) → An} {G : FF m} {gd : FF nd}
    (hm : P.follows .mixedOrders = true) (hT : TTok P T) (hTb : TOK P Tb)
    (hf : P.funcs[f]? = some fn) (hb : fn.body = some (.seq c0 (.seq (.region id opsD false) c2))) (hn : fn.ntmps = n) (hrs : fn.results = rs.toArray) (hname : (fn.name == "runtime.NumGoroutine") = false) (hmn : Nat.ble m n = true)
    (hops : opsD.toList = l0 ++ [⟨none, .defer ⟨.value (.func g), dargs, ats⟩, ty, pos, aft, none⟩])
    (hgd : DOK P g nd gd) (hfg : P.funcs[g]? = some fng) (hbg : fng.body.isSome = true) (hng : (fng.name == "runtime.NumGoroutine") = false) (hrt : rs.all isTmp = true) (hl0 : dstsOK n l0 = true)
    (hF : G = curF (fun ρ A K => runC T Tb c0 a0 ⟨fun ρ A => runOps T Tb opsD l0 ρ A (fun ρ A => runC T Tb c2 (a2 fun v A' => appF nd gd (dargs.toList.map (ev ρ)) A' fun _ A'' => K v A'') (knK T rs fun v A' => appF nd gd (dargs.toList.map (ev ρ)) A' fun _ A'' => K v A'') ρ A), noK, fun _ => noK⟩ ρ A) m 0 noA)
    (hg0 : ∀ kn, Good T Tb n c0 a0 kn) (hg2 : (fun K => col T Tb n true c2 (a2 K) (knK T rs K)) = fun K => col T Tb n false c2 (a2 K) (knK T rs K)) : FOK P f m G := by
  intro σ F φ A H args ws K hr hv hk
  rw [hF] at hk
  have hlen := appF_len m G args (by rw [hF]; exact hk)
  obtain ⟨ρ, h1, h2⟩ := appF_cur (σ := σ) (φ := φ) (fun ρ A K => runC T Tb c0 a0 ⟨fun ρ A => runOps T Tb opsD l0 ρ A (fun ρ A => runC T Tb c2 (a2 fun v A' => appF nd gd (dargs.toList.map (ev ρ)) A' fun _ A'' => K v A'') (knK T rs fun v A' => appF nd gd (dargs.toList.map (ev ρ)) A' fun _ A'' => K v A'') ρ A), noK, fun _ => noK⟩ ρ A) m 0 noA args ws (enArgs ws.toArray).get hk hv (fun u => by simp [noA, VR]) (fun j w hj => by
    simp only [enArgs, Nat.zero_add]
    rw [Array.getD_eq_getD_getElem?]
    simp [hj])
  refine callF_dfr hf hb hn hrs hname (by have := hv.length; have := Nat.le_of_ble_eq_true hmn; simp; omega) (cw2_sound _ _ _ _ ?_)
  have hbad : ∀ (D : List Deferred) (R : En → Heap → Prop), KOK σ F D φ noK R := fun D R φ' A ρ e H _ _ _ h => by cases h
  have hpan : PanOK (dfrQ P rs (RK σ F φ K)) := fun c ρ ρ' H _ h => h.elim
  -- behind the put-off call
  have last : ∀ (φ1 : Phi) (ρ1 : Nat → AV) (e1 : En), φ.le φ1 → ER σ φ1 ρ1 e1 → KOK σ F [⟨.fn (.func g) #[], (dargs.toList.map e1.ev).toArray⟩] φ1
      (fun ρ A => retA T rs ρ A fun l => appF nd gd (dargs.toList.map (ev ρ1)) A fun _ A'' => K (tupA l) A'')
      (fun e H => dfrQ P rs (RK σ F φ K) .ret e H) := by
    intro φ1 ρ1 e1 hle1 her1 φ' A ρ e H h1 h2 h3 h4
    refine ⟨g, #[], _, fng, h3.ds, hfg, hbg, hng, ?_⟩
    rw [Array.append_empty]
    have hres : resL P e H rs fun vs => DCall P g (dargs.toList.map e1.ev).toArray H fun H' => RK σ F φ K (tupV vs) H' := by
      refine retA_ok hT h2 h3.er rs _ _ h4 fun l ws h5 h6 => ?_
      have hargs : VRl σ φ' (dargs.toList.map (ev ρ1)) (dargs.toList.map e1.ev) := VRl.mono h1 _ _ (evl_ok her1 dargs.toList)
      have := hgd σ F φ' A H _ _ _ h2 hargs h6
      intro w hw
      refine (this w hw).mono ?_
      rintro e' u' w' ⟨a1, a2, a3, v, φ'', av, A'', b1, b2, b3, b4⟩
      exact ⟨a1, a2, a3, φ'', tupA l, A'', (hle1.trans h1).trans b1, VR.mono b1 _ _ (tupA_ok h5), b3, b4⟩
    have key : ∀ (rs : List ResultVar) (k : List Value → Heap → Prop), rs.all isTmp = true → (resL P e H rs fun vs => DCall P g (dargs.toList.map e1.ev).toArray H fun H' => k vs H') → DCall P g (dargs.toList.map e1.ev).toArray H fun H' => resL P e H' rs fun vs => k vs H' := by
      intro rs
      induction rs with
      | nil => intro k _ h; exact h
      | cons r rs ih =>
        intro k ha h
        cases r with
        | tmp t => exact ih (fun vs H' => k (e.get t :: vs) H') (by simpa [isTmp] using ha) h
        | cell _ _ => simp [isTmp] at ha
    exact key rs _ hrt hres
  have mid : KOK σ F [] φ (fun ρ A => runOps T Tb opsD l0 ρ A (fun ρ A => runC T Tb c2 (a2 fun v A' => appF nd gd (dargs.toList.map (ev ρ)) A' fun _ A'' => K v A'') (knK T rs fun v A' => appF nd gd (dargs.toList.map (ev ρ)) A' fun _ A'' => K v A'') ρ A))
      (cw2 n P (.seq (.region id opsD false) c2) (dfrQ P rs (RK σ F φ K))) := by
    intro φ' A ρ e H h1 h2 h3 h4
    show opsWp2 n P opsD (seqQ (cw2 n P c2 (dfrQ P rs (RK σ F φ K))) (dfrQ P rs (RK σ F φ K))) opsD.toList e H
    rw [hops]
    have split : ∀ (l1 l2 : List Oper) (Q Q' : Exit → En → Heap → Prop) (e : En) (H : Heap), (∀ c e H, Q (.panic c) e H → Q' (.panic c) e H) → (∀ e H, Q .normal e H → opsWp2 n P opsD Q' l2 e H) → opsWp2 n P opsD Q l1 e H → opsWp2 n P opsD Q' (l1 ++ l2) e H := by
      intro l1 l2 Q Q' e H hp hn
      induction l1 generalizing e H with
      | nil => intro h; exact hn _ _ h
      | cons o l1 ih =>
        intro h
        have mono : ∀ {o : Oper} {e : En} {H : Heap} {K1 K2 : En → Heap → Prop}, (∀ e H, K1 e H → K2 e H) → opWp n P o e H K1 Q → opWp n P o e H K2 Q' := by
          intro o e H K1 K2 hk hx
          unfold opWp at hx ⊢
          refine hwp_mono P _ _ _ _ _ _ ?_ (fun v H' hx => hp _ _ _ hx) hx
          intro nx H' hx
          cases nx with
          | enter f as => exact hx.mono (fun v H' h => hk _ _ h) (fun c H' h => hp _ _ _ h)
          | value v => exact hk _ _ hx
          | skip => exact hk _ _ hx
          | defer d => exact hk _ _ hx
          | _ => exact hx.elim
        show opG2 n P opsD o e H (opsWp2 n P opsD Q' (l1 ++ l2)) Q'
        have h : opG2 n P opsD o e H (opsWp2 n P opsD Q l1) Q := h
        unfold opG2 at h ⊢
        cases hgd : o.guard with
        | none => rw [hgd] at h; exact mono (fun e H => ih e H) h
        | some gg =>
          obtain ⟨j, want⟩ := gg
          rw [hgd] at h
          have h : guardW (slotOf opsD e j) want (opWp n P o e H (opsWp2 n P opsD Q l1) Q) (opsWp2 n P opsD Q l1 (e.put n o.dst undef) H) := h
          show guardW (slotOf opsD e j) want (opWp n P o e H (opsWp2 n P opsD Q' (l1 ++ l2)) Q') (opsWp2 n P opsD Q' (l1 ++ l2) (e.put n o.dst undef) H)
          generalize slotOf opsD e j = w at h
          cases w with
          | bool b => exact ⟨fun x => mono (fun e H => ih e H) (h.1 x), fun x => ih _ _ (h.2 x)⟩
          | _ => exact ih _ _ h
    refine split l0 _ (fun x e H => match x with | .normal => ∃ φ'' A'' ρ'', φ.le φ'' ∧ Rel σ F φ'' A'' H ∧ ENV σ φ'' [] ρ'' e ∧ (runC T Tb c2 (a2 fun v A' => appF nd gd (dargs.toList.map (ev ρ'')) A' fun _ A'' => K v A'') (knK T rs fun v A' => appF nd gd (dargs.toList.map (ev ρ'')) A' fun _ A'' => K v A'') ρ'' A'') = true | _ => False) _ e H ?_ ?_ ?_
    · intro c e H h; exact h.elim
    · rintro e H ⟨φ'', A'', ρ'', k1, k2, k3, k4⟩
      show opG2 n P opsD _ e H _ _
      unfold opG2
      show opWp n P _ e H _ _
      unfold opWp
      have hx : qrun P (execOp e.ev ⟨none, .defer ⟨.value (.func g), dargs, ats⟩, ty, pos, aft, none⟩) H = some (.defer ⟨.fn (.func g) #[], dargs.map e.ev⟩) := by
        show qrun P (do pure (Next.defer (← Deferred.ofValue (e.ev (.func g)) (dargs.map e.ev)))) H = _
        rw [qrun_bind']
        show (qrun P (Deferred.ofValue (.func (.func g) #[] #[]) (dargs.map e.ev)) H).bind _ = _
        have : qrun P (Deferred.ofValue (.func (.func g) #[] #[]) (dargs.map e.ev)) H = some ⟨.fn (.func g) #[], dargs.map e.ev⟩ := by
          show qrun P (pure (Deferred.mk (.fn (.func g) #[]) (#[] ++ dargs.map e.ev))) H = _
          rw [Array.empty_append]
          rfl
        rw [this]
        rfl
      refine hwp_of_qrun P _ H _ _ _ hx ?_
      show cw2 n P c2 (dfrQ P rs (RK σ F φ K)) (En.put n { e with ds := _ :: e.ds } none undef) H
      have hds : e.ds = [] := k3.ds
      have hda : dargs.map e.ev = (dargs.toList.map e.ev).toArray := by apply Array.ext'; simp
      have hen : (En.put n { e with ds := (Deferred.mk (.fn (.func g) #[]) (dargs.map e.ev)) :: e.ds } none undef) = { e with ds := [Deferred.mk (.fn (.func g) #[]) (dargs.toList.map e.ev).toArray] } := by
        show ({ e with ds := _ :: e.ds } : En) = _
        rw [hds, hda]
      rw [hen]
      have lst := last φ'' ρ'' e k1 k3.er
      have := run_ok (D := [⟨.fn (.func g) #[], (dargs.toList.map e.ev).toArray⟩]) hm hT hTb c2 _ _ (col_good _ _ _ (congrFun hg2 fun v A' => appF nd gd (dargs.toList.map (ev ρ'')) A' fun _ A'' => K v A'')) (dfrQ P rs (RK σ F φ K)) φ''
        ⟨lst, lst, fun i φ' A ρ e H _ _ _ h => (by cases h), hpan⟩
      exact this φ'' A'' ρ'' { e with ds := [⟨.fn (.func g) #[], (dargs.toList.map e.ev).toArray⟩] } H φ''.le_refl k2 ⟨k3.er, rfl⟩ k4
    · refine runOps_ok (D := []) hT hTb l0 φ' ρ A e H hl0 h2 h3 ?_ h4
      intro φ'' A'' ρ'' e'' H'' a1 a2 a3 a4
      exact ⟨φ'', A'', ρ'', h1.trans a1, a2, a3, a4⟩
  refine run_ok (D := []) hm hT hTb c0 a0 _ (hg0 _) (seqQ (cw2 n P (.seq (.region id opsD false) c2) (dfrQ P rs (RK σ F φ K))) (dfrQ P rs (RK σ F φ K))) φ ⟨mid, hbad _ _, fun i => hbad _ _, hpan.seq⟩ φ A ρ (enArgs ws.toArray) H φ.le_refl hr ⟨h1, rfl⟩ h2
/-- What the closure is that is put off. -/
abbrev cloK (v : AV) (g q : Nat) (x : Bool) : Bool := v.on_f (fun f xs ys => ifB (Nat.beq f g) (ifB (Nat.beq (Nat.add xs.length ys.length) q) x false) false) false
theorem seq_assoc {n : Nat} {P : Program} {a b c : Code} {Q : Exit → En → Heap → Prop} {ρ : En} {H : Heap} (h : cw2 n P (.seq (.seq a b) c) Q ρ H) : cw2 n P (.seq a (.seq b c)) Q ρ H := by
  have e : seqQ (cw2 n P c Q) (seqQ (cw2 n P c Q) Q) = seqQ (cw2 n P c Q) Q := by funext x ρ H; cases x <;> rfl
  have e2 : seqQ (cw2 n P b (seqQ (cw2 n P c Q) Q)) (seqQ (cw2 n P c Q) Q) = seqQ (cw2 n P b (seqQ (cw2 n P c Q) Q)) Q := by funext x ρ H; cases x <;> rfl
  have h : cw2 n P a (seqQ (cw2 n P b (seqQ (cw2 n P c Q) Q)) (seqQ (cw2 n P c Q) Q)) ρ H := h
  rw [e2] at h
  exact h
/-- A closure is put off that does nothing at a normal end (as one that recovers). -/
theorem fok_dfn {f g id q : Nat} {fn fng : Func} {body c0 c2 : Code} {opsD : Array Oper} {l0 : List Oper} {cf : Operand} {dargs : Array Operand} {ats : Array TypeId} {ty : TypeId} {pos : String} {aft : Array Edge} {rs : List ResultVar} {n m : Nat} {T : TR} {Tb : FT} {a0 : An} {a2 : (AV → AH → Bool) → An} {G : FF m}
    (hm : P.follows .mixedOrders = true) (hT : TTok P T) (hTb : TOK P Tb)
    (hf : P.funcs[f]? = some fn) (hb : fn.body = some body) (hsq : ∀ Q ρ H, cw2 n P (.seq c0 (.seq (.region id opsD false) c2)) Q ρ H → cw2 n P body Q ρ H) (hda : dargs = #[]) (hn : fn.ntmps = n) (hrs : fn.results = rs.toArray) (hname : (fn.name == "runtime.NumGoroutine") = false) (hmn : Nat.ble m n = true)
    (hops : opsD.toList = l0 ++ [⟨none, .defer ⟨.value cf, dargs, ats⟩, ty, pos, aft, none⟩])
    (hdn : ∀ as H, as.size = q → DCall P g as H fun H' => H' = H) (hfg : P.funcs[g]? = some fng) (hbg : fng.body.isSome = true) (hng : (fng.name == "runtime.NumGoroutine") = false) (hl0 : dstsOK n l0 = true)
    (hF : G = curF (fun ρ A K => runC T Tb c0 a0 ⟨fun ρ A => runOps T Tb opsD l0 ρ A (fun ρ A => cloK (ev ρ cf) g q (runC T Tb c2 (a2 K) (knK T rs K) ρ A)), noK, fun _ => noK⟩ ρ A) m 0 noA)
    (hg0 : ∀ kn, Good T Tb n c0 a0 kn) (hg2 : (fun K => col T Tb n true c2 (a2 K) (knK T rs K)) = fun K => col T Tb n false c2 (a2 K) (knK T rs K)) : FOK P f m G := by
  intro σ F φ A H args ws K hr hv hk
  rw [hF] at hk
  have hlen := appF_len m G args (by rw [hF]; exact hk)
  obtain ⟨ρ, h1, h2⟩ := appF_cur (σ := σ) (φ := φ) (fun ρ A K => runC T Tb c0 a0 ⟨fun ρ A => runOps T Tb opsD l0 ρ A (fun ρ A => cloK (ev ρ cf) g q (runC T Tb c2 (a2 K) (knK T rs K) ρ A)), noK, fun _ => noK⟩ ρ A) m 0 noA args ws (enArgs ws.toArray).get hk hv (fun u => by simp [noA, VR]) (fun j w hj => by
    simp only [enArgs, Nat.zero_add]
    rw [Array.getD_eq_getD_getElem?]
    simp [hj])
  refine callF_dfr hf hb hn hrs hname (by have := hv.length; have := Nat.le_of_ble_eq_true hmn; simp; omega) (cw2_sound _ _ _ _ (hsq _ _ _ ?_))
  have hbad : ∀ (D : List Deferred) (R : En → Heap → Prop), KOK σ F D φ noK R := fun D R φ' A ρ e H _ _ _ h => by cases h
  have hpan : PanOK (dfrQ P rs (RK σ F φ K)) := fun c ρ ρ' H _ h => h.elim
  have last : ∀ (φ1 : Phi) (cap as : Array Value), (as ++ cap).size = q → φ.le φ1 → KOK σ F [⟨.fn (.func g) cap, as⟩] φ1 (fun ρ A => retA T rs ρ A fun l => K (tupA l) A) (fun e H => dfrQ P rs (RK σ F φ K) .ret e H) := by
    intro φ1 cap as hq hle1 φ' A ρ e H h1 h2 h3 h4
    refine ⟨g, cap, as, fng, h3.ds, hfg, hbg, hng, ?_⟩
    have hres : resL P e H rs fun vs => RK σ F φ K (tupV vs) H := retA_ok hT h2 h3.er rs _ _ h4 fun l ws h5 h6 => ⟨φ', tupA l, A, hle1.trans h1, tupA_ok h5, h2, h6⟩
    intro w hw
    refine (hdn (as ++ cap) H hq w hw).mono ?_
    rintro e' u' w' ⟨a1, a2, a3, a4⟩
    refine ⟨a1, a2, a3, ?_⟩
    rw [a4]; exact hres
  have mid : KOK σ F [] φ (fun ρ A => runOps T Tb opsD l0 ρ A (fun ρ A => cloK (ev ρ cf) g q (runC T Tb c2 (a2 K) (knK T rs K) ρ A)))
      (cw2 n P (.seq (.region id opsD false) c2) (dfrQ P rs (RK σ F φ K))) := by
    intro φ' A ρ e H h1 h2 h3 h4
    show opsWp2 n P opsD (seqQ (cw2 n P c2 (dfrQ P rs (RK σ F φ K))) (dfrQ P rs (RK σ F φ K))) opsD.toList e H
    rw [hops]
    have split : ∀ (l1 l2 : List Oper) (Q Q' : Exit → En → Heap → Prop) (e : En) (H : Heap), (∀ c e H, Q (.panic c) e H → Q' (.panic c) e H) → (∀ e H, Q .normal e H → opsWp2 n P opsD Q' l2 e H) → opsWp2 n P opsD Q l1 e H → opsWp2 n P opsD Q' (l1 ++ l2) e H := by
      intro l1 l2 Q Q' e H hp hn
      induction l1 generalizing e H with
      | nil => intro h; exact hn _ _ h
      | cons o l1 ih =>
        intro h
        have mono : ∀ {o : Oper} {e : En} {H : Heap} {K1 K2 : En → Heap → Prop}, (∀ e H, K1 e H → K2 e H) → opWp n P o e H K1 Q → opWp n P o e H K2 Q' := by
          intro o e H K1 K2 hk hx
          unfold opWp at hx ⊢
          refine hwp_mono P _ _ _ _ _ _ ?_ (fun v H' hx => hp _ _ _ hx) hx
          intro nx H' hx
          cases nx with
          | enter f as => exact hx.mono (fun v H' h => hk _ _ h) (fun c H' h => hp _ _ _ h)
          | value v => exact hk _ _ hx
          | skip => exact hk _ _ hx
          | defer d => exact hk _ _ hx
          | _ => exact hx.elim
        show opG2 n P opsD o e H (opsWp2 n P opsD Q' (l1 ++ l2)) Q'
        have h : opG2 n P opsD o e H (opsWp2 n P opsD Q l1) Q := h
        unfold opG2 at h ⊢
        cases hgd : o.guard with
        | none => rw [hgd] at h; exact mono (fun e H => ih e H) h
        | some gg =>
          obtain ⟨j, want⟩ := gg
          rw [hgd] at h
          have h : guardW (slotOf opsD e j) want (opWp n P o e H (opsWp2 n P opsD Q l1) Q) (opsWp2 n P opsD Q l1 (e.put n o.dst undef) H) := h
          show guardW (slotOf opsD e j) want (opWp n P o e H (opsWp2 n P opsD Q' (l1 ++ l2)) Q') (opsWp2 n P opsD Q' (l1 ++ l2) (e.put n o.dst undef) H)
          generalize slotOf opsD e j = w at h
          cases w with
          | bool b => exact ⟨fun x => mono (fun e H => ih e H) (h.1 x), fun x => ih _ _ (h.2 x)⟩
          | _ => exact ih _ _ h
    refine split l0 _ (fun x e H => match x with | .normal => ∃ φ'' A'' ρ'', φ.le φ'' ∧ Rel σ F φ'' A'' H ∧ ENV σ φ'' [] ρ'' e ∧ cloK (ev ρ'' cf) g q (runC T Tb c2 (a2 K) (knK T rs K) ρ'' A'') = true | _ => False) _ e H ?_ ?_ ?_
    · intro c e H h; exact h.elim
    · rintro e H ⟨φ'', A'', ρ'', k1, k2, k3, k4⟩
      show opG2 n P opsD _ e H _ _
      unfold opG2
      show opWp n P _ e H _ _
      unfold opWp
      have hcv := ev_ok k3.er cf
      rcases AV.on_f_eq (ev ρ'' cf) (fun f xs ys => ifB (Nat.beq f g) (ifB (Nat.beq (Nat.add xs.length ys.length) q) (runC T Tb c2 (a2 K) (knK T rs K) ρ'' A'') false) false) false with ⟨f', xs, ys, hev, e2⟩ | e2
      · have k4 : (ev ρ'' cf).on_f (fun f xs ys => ifB (Nat.beq f g) (ifB (Nat.beq (Nat.add xs.length ys.length) q) (runC T Tb c2 (a2 K) (knK T rs K) ρ'' A'') false) false) false = true := k4
        rw [e2] at k4
        obtain ⟨hfg', k4'⟩ := ifB_and k4
        obtain ⟨hq', k5⟩ := ifB_and k4'
        clear k4 k4'
        have hq' := Nat.eq_of_beq_eq_true hq'
        have hfg' := Nat.eq_of_beq_eq_true hfg'
        subst hfg'
        rw [hev] at hcv
        simp only [VR] at hcv
        obtain ⟨xs', ys', hcv, hx1, hy1⟩ := hcv
        have hx : qrun P (execOp e.ev ⟨none, .defer ⟨.value cf, dargs, ats⟩, ty, pos, aft, none⟩) H = some (.defer ⟨.fn (.func f') ys', xs' ++ dargs.map e.ev⟩) := by
          show qrun P (do pure (Next.defer (← Deferred.ofValue (e.ev cf) (dargs.map e.ev)))) H = _
          rw [qrun_bind', hcv]
          show (qrun P (pure (Deferred.mk (.fn (.func f') ys') (xs' ++ dargs.map e.ev))) H).bind _ = _
          rfl
        refine hwp_of_qrun P _ H _ _ _ hx ?_
        show cw2 n P c2 (dfrQ P rs (RK σ F φ K)) (En.put n { e with ds := _ :: e.ds } none undef) H
        have hds : e.ds = [] := k3.ds
        have hen : (En.put n { e with ds := (Deferred.mk (.fn (.func f') ys') (xs' ++ dargs.map e.ev)) :: e.ds } none undef) = { e with ds := [Deferred.mk (.fn (.func f') ys') (xs' ++ dargs.map e.ev)] } := by
          show ({ e with ds := _ :: e.ds } : En) = _
          rw [hds]
        rw [hen]
        have lst := last φ'' ys' (xs' ++ dargs.map e.ev) (by have h1 := hx1.length; have h2 := hy1.length; subst hda; simp at h1 h2 ⊢; have hq'' : xs.length + ys.length = q := hq'; omega) k1
        have := run_ok (D := [⟨.fn (.func f') ys', xs' ++ dargs.map e.ev⟩]) hm hT hTb c2 _ _ (col_good _ _ _ (congrFun hg2 K)) (dfrQ P rs (RK σ F φ K)) φ''
          ⟨lst, lst, fun i φ' A ρ e H _ _ _ h => (by cases h), hpan⟩
        exact this φ'' A'' ρ'' { e with ds := [⟨.fn (.func f') ys', xs' ++ dargs.map e.ev⟩] } H φ''.le_refl k2 ⟨k3.er, rfl⟩ k5
      · have k4 : (ev ρ'' cf).on_f (fun f xs ys => ifB (Nat.beq f g) (ifB (Nat.beq (Nat.add xs.length ys.length) q) (runC T Tb c2 (a2 K) (knK T rs K) ρ'' A'') false) false) false = true := k4
        rw [e2] at k4; cases k4
    · refine runOps_ok (D := []) hT hTb l0 φ' ρ A e H hl0 h2 h3 ?_ h4
      intro φ'' A'' ρ'' e'' H'' a1 a2 a3 a4
      exact ⟨φ'', A'', ρ'', h1.trans a1, a2, a3, a4⟩
  refine run_ok (D := []) hm hT hTb c0 a0 _ (hg0 _) (seqQ (cw2 n P (.seq (.region id opsD false) c2) (dfrQ P rs (RK σ F φ K))) (dfrQ P rs (RK σ F φ K))) φ ⟨mid, hbad _ _, fun i => hbad _ _, hpan.seq⟩ φ A ρ (enArgs ws.toArray) H φ.le_refl hr ⟨h1, rfl⟩ h2
end
end Go.Run
