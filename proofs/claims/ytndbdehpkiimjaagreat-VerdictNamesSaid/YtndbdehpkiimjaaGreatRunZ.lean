
/- Closed runs: from a heap in which an argument lies that is only read; numbers that are not known. -/
import Derived.Test.YtndbdehpkiimjaaGreatRunY
namespace Go.Run
open Go.HL
variable {σ : Nat → Value} {F : Nat → Option Obj} {φ : Phi} {A : AH} {H : Heap} {P : Program} {V : HV}
noncomputable section
set_option linter.unusedVariables false

theorem spec_of1 {f m : Nat} {G : FF m} (h : FOK P f m G) {args : List AV} {ws : List Value} (hr : Rel σ (fun r => H[r]?) φ A H) (hv : VRl σ φ args ws) (hk : appF m G args A yes = true) : CallF P f ws H (fun r H' => r = .bool true ∧ Fr [] H H') NoP := by
  refine (h σ _ φ A H args ws yes hr hv hk).mono ?_ (fun _ _ x => x)
  rintro v H' ⟨φ, a, A', _, h1, h2, h3⟩
  refine ⟨?_, ?_, ?_⟩
  · cases a with
    | b x =>
      have : x = true := h3
      subst this
      simpa [VR] using h1
    | _ => cases h3
  · by_cases hz : H.size = 0
    · omega
    · have h4 := h2.frm (H.size - 1) H[H.size - 1] (Array.getElem?_eq_getElem (by omega))
      have := (Array.getElem?_eq_some_iff.1 h4).1
      omega
  · intro b hb _
    have := h2.frm b H[b] (Array.getElem?_eq_getElem hb)
    rw [this, Array.getElem?_eq_getElem hb]
theorem VRl_bits : ∀ (bs : List Bool), VRl σ φ (bs.map AV.b) (bs.map Value.bool)
  | [] => by simp [VRl]
  | b :: bs => by simp only [List.map_cons, VRl]; exact ⟨_, _, rfl, by simp [VR], VRl_bits bs⟩
/-- A list of bools as an argument: its first cells are known by their names. -/
theorem bits_rel {xs bs : List Bool} {b o cap : Nat} (hcap : xs.length ≤ cap) (hbs : bs.length ≤ 60000) (hxs : xs.length ≤ 60000) (hpre : ∀ (i : Nat) (x : Bool), bs[i]? = some x → xs[i]? = some x)
    (hcell : ∃ c el fr, H[b]? = some (.cells c el fr) ∧ ∀ (i : Nat) (x : Bool), xs[i]? = some x → c[o + i]? = some (.bool x)) {j : Id} (hj : j.nat = A0.nx.nat + 1) :
    ∃ σ φ, Rel σ (fun r => H[r]?) φ ((A0.set A0.nx (.c true bs.length (ctL (bs.map AV.b)))).to j) H ∧ VR σ φ (.q A0.nx 0 xs.length xs.length 1 false) (.slice (some ⟨b, o, none⟩) xs.length cap) := by
  obtain ⟨c, el, fr, hb, hc⟩ := hcell
  have hle : bs.length ≤ xs.length := by
    by_cases hz : bs.length = 0
    · omega
    · have := hpre (bs.length - 1) bs[bs.length - 1] (by simp)
      have := (List.getElem?_eq_some_iff.1 this).1
      omega
  obtain ⟨g1, g2, g3⟩ := ctL_cells (σ := fun r => if r = b then Value.bool true else undef) (φ := fun i => if i = A0.nx then some ⟨b, o, o + cap⟩ else none) (l := bs.map AV.b) (cs := (bs.map Value.bool).toArray) (by rw [List.length_map]; omega) (by simpa using VRl_bits bs)
  refine ⟨fun r => if r = b then Value.bool true else undef, fun i => if i = A0.nx then some ⟨b, o, o + cap⟩ else none, ?_, ?_⟩
  · refine ⟨fun i e he => ?_, fun i => ?_, fun i i' e e' hi hi' he he' hr => ?_, fun r o h => h, fun r hs => ?_⟩
    · have he : (if i = A0.nx then some (⟨b, o, o + cap⟩ : Ent) else none) = some e := he
      split at he
      · rename_i hi
        subst hi
        show A0.nx.nat < j.nat
        omega
      · cases he
    · rw [AH.get_to]
      by_cases hi : i = A0.nx
      · subst hi
        rw [AH.get_set]
        refine ⟨⟨b, o, o + cap⟩, if_pos rfl, .inr ⟨rfl, if_pos rfl⟩, by simpa using g1, by show o + bs.length ≤ o + cap; omega, c, el, fr, hb, (fun h => by cases h), (fun h => by cases h), fun q hq => ?_⟩
        obtain ⟨w, h1, h2⟩ := g3 q (by simpa using hq)
        refine ⟨w, ?_, h2⟩
        simp only [List.getElem?_toArray, List.getElem?_map, Option.map_eq_some_iff] at h1
        obtain ⟨x, hx, rfl⟩ := h1
        exact hc q x (hpre q x hx)
      · rw [AH.get_set' _ hi, A0_get]; trivial
    · have key : ∀ i, ((A0.set A0.nx (.c true bs.length (ctL (bs.map AV.b)))).to j).get i ≠ .no → i = A0.nx := by
        intro i hi
        rw [AH.get_to] at hi
        by_cases hx : i = A0.nx
        · exact hx
        · rw [AH.get_set' _ hx, A0_get] at hi; exact absurd rfl hi
      rw [key i hi, key i' hi']
    · have hs : (if r = b then Value.bool true else undef) = .bool true := hs
      split at hs
      · rename_i hr; subst hr; exact (Array.getElem?_eq_some_iff.1 hb).1
      · simp [undef] at hs
  · simp only [VR]
    exact ⟨⟨b, o, o + cap⟩, o, cap, by simp, rfl, ⟨Nat.le_refl _, by omega⟩, hcap, ⟨by show o + cap * 1 ≤ o + cap; omega, fun _ => by show o + cap * 1 = o + cap; omega⟩, fun _ => rfl, fun h => by cases h⟩
theorem A0_rel : Rel s0 (fun r => H[r]?) p0 A0 H := ⟨fun i e h => (by cases h), fun i => (by rw [A0_get]; trivial), fun i j e e' h => absurd (A0_get i) h, fun r o h => h, fun r h => by simp [stat, undef] at h⟩
theorem env2 {e : En} {x0 x1 : AV} (h0 : VR σ φ x0 (e.get 0)) (h1 : VR σ φ x1 (e.get 1)) (hd : e.ds = []) : ENV σ φ [] (putA (putA noA (some 0) x0) (some 1) x1) e := by
  refine ⟨fun u => ?_, hd⟩
  match u with
  | 0 => exact h0
  | 1 => exact h1
  | u + 2 => show VR σ φ .u _; simp only [VR]
theorem CW.seq3 {n : Nat} {x y : Code} {Q : Exit → En → Heap → Prop} {ρ : En} (h : ∀ K : En → Heap → Prop, (∀ e H, CW n P y Q e H → K e H) → CW n P x (seqQ K Q) ρ H) : CW n P (.seq x y) Q ρ H := by
  intro w0 w a h0 hw ha
  refine wp_seq (wp_mono (h _ (fun _ _ h => h) w0 w a h0 hw ha) ?_)
  rintro e a' w' ⟨hr, ρ', ha', hx⟩
  cases e with
  | normal => exact hx w0 w' a' hr rfl ha'
  | _ => exact ⟨hr, ρ', ha', hx⟩
theorem CW.seq2 {n : Nat} {x y : Code} {Q : Exit → En → Heap → Prop} {ρ : En} (h : CW n P x (seqQ (CW n P y Q) Q) ρ H) : CW n P (.seq x y) Q ρ H := by
  intro w0 w a h0 hw ha
  refine wp_seq (wp_mono (h w0 w a h0 hw ha) ?_)
  rintro e a' w' ⟨hr, ρ', ha', hx⟩
  cases e with
  | normal => exact hx w0 w' a' hr rfl ha'
  | _ => exact ⟨hr, ρ', ha', hx⟩
/-- The rest of a law's code: a run of it that answers true. -/
theorem tail_yes {T : TR} {Tb : FT} {n : Nat} {y : Code} {b : An} {rs : List ResultVar} {l : List Nat} {g : JF l.length} (hm : P.follows .mixedOrders = true) (hT : TTok P T) (hTb : TOK P Tb)
    (hj : ∀ ρ A, jmp l g ρ A = runC T Tb y b (knK T rs yes) (keepS l ρ noA) A) (hg : Good T Tb n y b (knK T rs yes)) {H0 : Heap} {e : En} {ρ : Nat → AV} (hf : Fr [] H0 H)
    (hr : Rel σ (fun r => H[r]?) φ A H) (he : ENV σ φ [] ρ e) (hk : jmp l g ρ A = true) : CW n P y (retQ P rs (fun v H' => v = .bool true ∧ Fr [] H0 H') NoP) e H := by
  refine cw2_sound y _ _ _ ?_
  rw [hj] at hk
  have ret : KOK σ (fun r => H[r]?) [] φ (fun ρ A => retA T rs ρ A fun l => yes (tupA l) A) fun e H' => e.ds = [] ∧ resL P e H' rs fun vs => tupV vs = .bool true ∧ Fr [] H0 H' := by
    intro φ' A' ρ e H' h1 h2 h3 h4
    refine ⟨h3.ds, retA_ok hT h2 h3.er rs _ _ h4 fun l ws h5 h6 => ⟨?_, hf.trans ⟨?_, ?_⟩⟩⟩
    · have h7 := tupA_ok h5
      generalize tupA l = a at h6 h7
      cases a with
      | b x =>
        have : x = true := h6
        subst this
        simpa [VR] using h7
      | _ => cases h6
    · by_cases hz : H.size = 0
      · omega
      · have h4 := h2.frm (H.size - 1) H[H.size - 1] (Array.getElem?_eq_getElem (by omega))
        have := (Array.getElem?_eq_some_iff.1 h4).1
        omega
    · intro b hb _
      have := h2.frm b H[b] (Array.getElem?_eq_getElem hb)
      rw [this, Array.getElem?_eq_getElem hb]
  refine run_ok hm hT hTb y b (knK T rs yes) hg _ φ ⟨ret, ret, ?_, ?_⟩ φ A (keepS l ρ noA) e H φ.le_refl hr (keep_no he l) hk
  · intro i φ' A ρ e H _ _ _ h; cases h
  · intro c ρ ρ' H hd h
    exact ⟨hd ▸ h.1, h.2⟩

/-! ### Numbers that are not known -/
theorem conv_at {g : IntKind} {x : Int} {k : AV → Bool} : convA .i64 (.z g x) k = mkI .i64 (IntKind.i64.wrap x) k := rfl
set_option maxRecDepth 100000
theorem conv_z {g : IntKind} {n : Nat} (h : n < 9223372036854775808) (k : AV → Bool) : convA .i64 (.z g (Int.ofNat n)) k = k (.n n) := by
  have e : IntKind.i64.wrap (Int.ofNat n) = Int.ofNat n := IntWalk.i64_in _ (by simp only [Int.ofNat_eq_natCast]; omega)
  rw [conv_at, e]
  unfold mkI
  show frc n (fun n => ifB (Nat.beq (kindN .i64) 3) (ifB (Nat.blt n 9223372036854775808) (k (.n n)) false) (k (.z .i64 (Int.ofNat n)))) = _
  rw [frc_eq]
  have h1 : Nat.blt n 9223372036854775808 = true := Nat.ble_eq_true_of_le (by omega)
  have h2 : Nat.beq (kindN .i64) 3 = true := by kernel_rfl
  rw [h1, h2]
  rfl
theorem conv_neg {g : IntKind} {n : Nat} (h : n < 9223372036854775808) (k : AV → Bool) : convA .i64 (.z g (Int.negSucc n)) k = k (.z .i64 (Int.negSucc n)) := by
  have e : IntKind.i64.wrap (Int.negSucc n) = Int.negSucc n := IntWalk.i64_in _ (by rw [Int.negSucc_eq]; omega)
  rw [conv_at, e]
  unfold mkI
  show frc n (fun n => k (.z .i64 (Int.negSucc n))) = _
  rw [frc_eq]
theorem min_le {n c : Nat} (h : n ≤ c) (k : AV → Bool) : minA (.n n) (.n c) k = k (.n n) := by
  show ifB (Nat.beq (kindN .i64) (kindN .i64)) (ifB (Nat.blt c n) (k (.n c)) (k (.n n))) false = _
  have h1 : Nat.blt c n = false := by
    cases hb : Nat.blt c n with
    | false => rfl
    | true => have := blt_t hb; omega
  have h2 : Nat.beq (kindN .i64) (kindN .i64) = true := by kernel_rfl
  rw [h1, h2]; rfl
theorem min_gt {n c : Nat} (h : c < n) (k : AV → Bool) : minA (.n n) (.n c) k = k (.n c) := by
  show ifB (Nat.beq (kindN .i64) (kindN .i64)) (ifB (Nat.blt c n) (k (.n c)) (k (.n n))) false = _
  have h1 : Nat.blt c n = true := Nat.ble_eq_true_of_le h
  have h2 : Nat.beq (kindN .i64) (kindN .i64) = true := by kernel_rfl
  rw [h1, h2]; rfl
theorem min_neg {n c : Nat} (k : AV → Bool) : minA (.z .i64 (Int.negSucc n)) (.n c) k = k (.z .i64 (Int.negSucc n)) := by
  show ifB (Nat.beq (kindN .i64) (kindN .i64)) (k (.z .i64 (Int.negSucc n))) false = _
  have h2 : Nat.beq (kindN .i64) (kindN .i64) = true := by kernel_rfl
  rw [h2]; rfl
end
end Go.Run
