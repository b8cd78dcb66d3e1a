
/- Closed runs: maps. -/
import Derived.Test.YtndbdehpkiimjaaGreatRunK4
import Derived.Test.YtndbdehpkiimjaaGreatHLMapP
namespace Go.Run
open Go.HL
variable {σ : Nat → Value} {F : Nat → Option Obj} {φ : Phi} {A : AH} {H : Heap} {P : Program} {V : HV}
noncomputable section
set_option linter.unusedVariables false

/-! ### Keys -/
def eqNs (l l' : List AV) : Bool := @List.rec AV (fun _ => List AV → Bool) (fun l' => @List.rec AV (fun _ => Bool) true (fun _ _ _ => false) l') (fun x _ ih l' => @List.rec AV (fun _ => Bool) false (fun y l' _ => x.on_n (fun a => y.on_n (fun b => ifB (Nat.beq a b) (ih l') false) false) false) l') l l'
def eqKey (a b : AV) : Bool :=
  a.on_n (fun x => b.on_n (fun y => Nat.beq x y) false) (a.on_z (fun _ x => b.on_z (fun _ y => eqI x y) false) (a.on_s (fun l => b.on_s (fun l' => eqL l l') false) (a.on_a (fun l => b.on_a (fun l' => eqNs l l') false) false)))
theorem keyV_forms {k : AV} {w : Value} (h : keyV k = some w) : (∃ x, k = .n x ∧ x < 9223372036854775808 ∧ w = .int .i64 x) ∨ (∃ x, k = .z .i64 x ∧ x < 0 ∧ w = .int .i64 x) ∨ (∃ l, k = .s l ∧ (∀ x ∈ l, x < 256) ∧ w = .string (strOf l)) ∨
    ∃ x y, k = .a [.n x, .n y] ∧ w = .agg #[.int .i64 (x : Nat), .int .i64 (y : Nat)] := by
  unfold keyV at h
  split at h
  · split at h
    · cases h; exact .inl ⟨_, rfl, by assumption, rfl⟩
    · cases h
  · split at h
    · cases h; exact .inr (.inl ⟨_, rfl, by assumption, rfl⟩)
    · cases h
  · split at h
    · rename_i l hl
      cases h
      refine .inr (.inr (.inl ⟨_, rfl, ?_, rfl⟩))
      simpa using hl
    · cases h
  · split at h
    · cases h; exact .inr (.inr (.inr ⟨_, _, rfl, rfl⟩))
    · cases h
  · cases h
theorem keyV_inj {k k' : AV} {w : Value} (h : keyV k = some w) (h' : keyV k' = some w) : k = k' := by
  rcases keyV_forms h with ⟨x, rfl, hx, rfl⟩ | ⟨x, rfl, hx, rfl⟩ | ⟨l, rfl, hl, rfl⟩ | ⟨x, y, rfl, rfl⟩ <;>
    rcases keyV_forms h' with ⟨x', rfl, hx', e⟩ | ⟨x', rfl, hx', e⟩ | ⟨l', rfl, hl', e⟩ | ⟨x', y', rfl, e⟩ <;> simp at e
  · have : x = x' := by omega
    subst this; rfl
  · omega
  · omega
  · subst e; rfl
  · rw [(strOf_inj hl hl').1 e]
  · obtain ⟨e1, e2⟩ := e
    have e1 : x = x' := by omega
    have e2 : y = y' := by omega
    subst e1 e2; rfl
theorem eqKey_ok {k k' : AV} {w w' : Value} (h : keyV k = some w) (h' : keyV k' = some w') : eqKey k k' = true ↔ k = k' := by
  rcases keyV_forms h with ⟨x, rfl, hx, rfl⟩ | ⟨x, rfl, hx, rfl⟩ | ⟨l, rfl, hl, rfl⟩ | ⟨x, y, rfl, rfl⟩ <;>
    rcases keyV_forms h' with ⟨x', rfl, hx', e⟩ | ⟨x', rfl, hx', e⟩ | ⟨l', rfl, hl', e⟩ | ⟨x', y', rfl, e⟩
  all_goals (try (constructor <;> intro e' <;> cases e'; done))
  · show Nat.beq x x' = true ↔ _
    rw [Nat.beq_eq]; simp
  · show eqI x x' = true ↔ _
    rw [eqI_eq]; simp
  · show eqL l l' = true ↔ _
    rw [eqL_eq]; simp
  · show ifB (Nat.beq x x') (ifB (Nat.beq y y') true false) false = true ↔ _
    simp [ifB_eq, Nat.beq_eq]
/-- A value that may be looked for. -/
def keyOK (g : Nat) (k : AV) : Bool := ifB (Nat.beq (clsA k) g) (k.on_n (fun _ => true) (k.on_z (fun g x => ifB (Nat.beq (kindN g) (kindN .i64)) (ltI x 0) false) (k.on_s (fun _ => true) (k.on_a (fun l => @List.rec AV (fun _ => Bool) false (fun a r _ => @List.rec AV (fun _ => Bool) false (fun b r _ => a.on_n (fun _ => b.on_n (fun _ => @List.rec AV (fun _ => Bool) true (fun _ _ _ => false) r) false) false) r) l) false)))) false
theorem keyOK_ok {g : Nat} {k : AV} {w : Value} (hv : VR σ φ k w) (h : keyOK g k = true) : keyV k = some w ∧ clsA k = g := by
  obtain ⟨h1, h⟩ := ifB_and h
  refine ⟨?_, Nat.eq_of_beq_eq_true h1⟩
  cases k with
  | n x => simp only [VR] at hv; obtain ⟨rfl, hx⟩ := hv; simp only [keyV]; rw [if_pos (by omega)]
  | z g' x =>
    replace h : ifB (Nat.beq (kindN g') (kindN .i64)) (ltI x 0) false = true := h
    obtain ⟨h2, h3⟩ := ifB_and h
    clear h
    have := kindN_inj h2
    subst this
    rw [ltI_eq] at h3
    have h := of_decide_eq_true h3
    simp only [VR] at hv
    subst hv
    simp only [keyV]; rw [if_pos h]
  | s l =>
    obtain ⟨l', e, rfl, hb, _⟩ := on_s_sound (k := fun _ => true) hv rfl
    simp only [AV.s.injEq] at e
    subst e
    simp only [keyV]
    rw [if_pos (by simpa using hb)]
  | a l =>
    match l, h, hv with
    | [], h, _ => cases h
    | [a], h, _ => cases h
    | a :: b :: c :: r, h, _ =>
      exfalso
      replace h : a.on_n (fun _ => b.on_n (fun _ => false) false) false = true := h
      cases a <;> first | cases h | (cases b <;> cases h)
    | [a, b], h, hv =>
      replace h : a.on_n (fun _ => b.on_n (fun _ => true) false) false = true := h
      cases a <;> first | cases h; done | skip
      cases b <;> first | cases h; done | skip
      simp only [VR, VRl] at hv
      obtain ⟨c, rfl, w1, ws, e, ⟨rfl, hx⟩, w2, ws2, rfl, ⟨rfl, hy⟩, rfl⟩ := hv
      simp only [keyV]
      rw [if_pos ⟨by omega, by omega⟩]
      congr 2
      apply Array.ext'
      exact e.symm
  | _ => cases h

/-! ### What is found in a real map -/
def FND (w : Value) (es : List MapEntry) (i : Nat) (o : Option (Nat × Value)) : Prop :=
  (o = none ∧ ∀ e ∈ es, e.key ≠ w) ∨ ∃ j e, es[j]? = some e ∧ e.key = w ∧ o = some (i + j, e.val)
theorem findNow_ok {d : TypeDesc} {w : Value} : ∀ (es : List MapEntry) (i : Nat), (∀ e ∈ es, ∃ b, Instr.sameNow d w e.key = some b ∧ (b = true ↔ e.key = w)) → ∃ o, Instr.findNow d w es i = some o ∧ FND w es i o
  | [], i, _ => ⟨none, rfl, .inl ⟨rfl, by simp⟩⟩
  | e :: es, i, h => by
    obtain ⟨b, h1, h2⟩ := h e (by simp)
    unfold Instr.findNow
    rw [h1]
    cases b with
    | true => exact ⟨_, rfl, .inr ⟨0, e, rfl, h2.1 rfl, rfl⟩⟩
    | false =>
      have hne : e.key ≠ w := fun x => by have := h2.2 x; cases this
      obtain ⟨o, h3, h4⟩ := findNow_ok es (i + 1) fun x hx => h x (by simp [hx])
      refine ⟨o, h3, ?_⟩
      rcases h4 with ⟨rfl, h5⟩ | ⟨j, x, h5, h6, rfl⟩
      · refine .inl ⟨rfl, fun y hy => ?_⟩
        rcases List.mem_cons.1 hy with rfl | hy
        · exact hne
        · exact h5 y hy
      · exact .inr ⟨j + 1, x, by simpa using h5, h6, by congr 2; omega⟩
theorem findAsking_ok {kt : TypeId} {w : Value} : ∀ (es : List MapEntry) (i : Nat), (∀ e ∈ es, ∃ b, qrun P (Op.equal kt w e.key) H = some b ∧ (b = true ↔ e.key = w)) → ∃ o, qrun P (Instr.findAsking kt w es i) H = some o ∧ FND w es i o
  | [], i, _ => ⟨none, rfl, .inl ⟨rfl, by simp⟩⟩
  | e :: es, i, h => by
    obtain ⟨b, h1, h2⟩ := h e (by simp)
    unfold Instr.findAsking
    rw [qrun_bind', h1, Option.bind_some]
    cases b with
    | true => exact ⟨_, rfl, .inr ⟨0, e, rfl, h2.1 rfl, rfl⟩⟩
    | false =>
      have hne : e.key ≠ w := fun x => by have := h2.2 x; cases this
      obtain ⟨o, h3, h4⟩ := findAsking_ok es (i + 1) fun x hx => h x (by simp [hx])
      refine ⟨o, h3, ?_⟩
      rcases h4 with ⟨rfl, h5⟩ | ⟨j, x, h5, h6, rfl⟩
      · refine .inl ⟨rfl, fun y hy => ?_⟩
        rcases List.mem_cons.1 hy with rfl | hy
        · exact hne
        · exact h5 y hy
      · exact .inr ⟨j + 1, x, by simpa using h5, h6, by congr 2; omega⟩
/-- The key type of a class. -/
def KC (P : Program) (g : Nat) (kt : TypeId) : Prop :=
  match g with
  | 0 => P.underlying kt = some (.int .i64)
  | 1 => P.underlying kt = some .string
  | 2 => PairT P kt
  | _ => False
theorem findKey_ok {g : Nat} {kt : TypeId} {k : AV} {w : Value} {es : List MapEntry} (hc : KC P g kt) (hk : keyV k = some w) (hg : clsA k = g) (he : ∀ e ∈ es, ∃ k', keyV k' = some e.key ∧ clsA k' = g) :
    ∃ o, qrun P (Instr.findKey kt w es) H = some o ∧ FND w es 0 o := by
  unfold Instr.findKey
  have int : ∀ x : Int, w = .int .i64 x → g = 0 → ∃ o, qrun P (do match Instr.findNow (← underlying kt) w es 0 with
      | some r => pure r
      | none => Instr.findAsking kt w es) H = some o ∧ FND w es 0 o := by
    rintro x rfl rfl
    obtain ⟨o, h1, h2⟩ := findNow_ok (d := .int .i64) (w := .int .i64 x) es 0 fun e hm => by
      obtain ⟨k', h3, h4⟩ := he e hm
      rcases keyV_forms h3 with ⟨y, rfl, hy, e1⟩ | ⟨y, rfl, hy, e1⟩ | ⟨l, rfl, hl, e1⟩ | ⟨y, z, rfl, e1⟩
      · rw [e1]; refine ⟨x == (y : Nat), by simp [Instr.sameNow], ?_⟩; simp; exact eq_comm
      · rw [e1]; refine ⟨x == y, by simp [Instr.sameNow], ?_⟩; simp; exact eq_comm
      · cases h4
      · cases h4
    refine ⟨o, ?_, h2⟩
    rw [qrun_bind', qrun_underlying hc, Option.bind_some, h1]
    rfl
  rcases keyV_forms hk with ⟨x, rfl, hx, rfl⟩ | ⟨x, rfl, hx, rfl⟩ | ⟨l, rfl, hl, rfl⟩ | ⟨x, y, rfl, rfl⟩
  · exact int _ rfl hg.symm
  · exact int _ rfl hg.symm
  · have hg : g = 1 := hg.symm
    subst hg
    obtain ⟨o, h1, h2⟩ := findNow_ok (d := .string) (w := .string (strOf l)) es 0 fun e hm => by
      obtain ⟨k', h3, h4⟩ := he e hm
      rcases keyV_forms h3 with ⟨y, rfl, hy, e1⟩ | ⟨y, rfl, hy, e1⟩ | ⟨l', rfl, hl', e1⟩ | ⟨y, z, rfl, e1⟩
      · cases h4
      · cases h4
      · rw [e1]
        refine ⟨strOf l == strOf l', rfl, ?_⟩
        rw [ba_beq]
        simp only [decide_eq_true_eq, Value.string.injEq]
        exact eq_comm
      · cases h4
    refine ⟨o, ?_, h2⟩
    rw [qrun_bind', qrun_underlying hc, Option.bind_some, h1]
    rfl
  · have hg : g = 2 := hg.symm
    subst hg
    have hp : PairT P kt := hc
    obtain ⟨f0, f1, t0, t1, hu, _⟩ := hp.un
    obtain ⟨o, h1, h2⟩ := findAsking_ok (P := P) (H := H) (kt := kt) (w := .agg #[.int .i64 (x : Nat), .int .i64 (y : Nat)]) es 0 fun e hm => by
      obtain ⟨k', h3, h4⟩ := he e hm
      rcases keyV_forms h3 with ⟨y', rfl, hy, e1⟩ | ⟨y', rfl, hy, e1⟩ | ⟨l', rfl, hl', e1⟩ | ⟨x', y', rfl, e1⟩
      · cases h4
      · cases h4
      · cases h4
      · rw [e1]
        refine ⟨_, hp.equal ((x : Int), (y : Int)) ((x' : Int), (y' : Int)), ?_⟩
        simp
        constructor <;> (rintro ⟨a, b⟩; exact ⟨a.symm, b.symm⟩)
    refine ⟨o, ?_, h2⟩
    rw [qrun_bind', qrun_underlying hu, Option.bind_some]
    cases es with
    | nil => exact h1
    | cons a es => exact h1
theorem checkKey_ok {g : Nat} {kt : TypeId} {k : AV} {w : Value} {b : Bool} (hc : KC P g kt) (hk : keyV k = some w) (hg : clsA k = g) : qrun P (Instr.checkKey b 10000 kt w) H = some () := by
  rcases keyV_forms hk with ⟨x, rfl, hx, rfl⟩ | ⟨x, rfl, hx, rfl⟩ | ⟨l, rfl, hl, rfl⟩ | ⟨x, y, rfl, rfl⟩
  · have hg : g = 0 := hg.symm
    subst hg
    exact checkKey_int hc
  · have hg : g = 0 := hg.symm
    subst hg
    exact checkKey_int hc
  · have hg : g = 1 := hg.symm
    subst hg
    unfold Instr.checkKey
    rw [qrun_bind', qrun_underlying hc]
    rfl
  · have hg : g = 2 := hg.symm
    subst hg
    exact PairT.check hc ((x : Int), (y : Int))

/-! ### Buckets -/
def findB (l : List (AV × AV)) (k : AV) (yes : AV → Bool) (no : Bool) : Bool := @List.rec (AV × AV) (fun _ => Bool) no (fun e _ ih => @Bool.rec (fun _ => Bool) ih (yes e.2) (eqKey e.1 k)) l
theorem findB_ok {k : AV} {w : Value} {yes : AV → Bool} {no : Bool} (hk : keyV k = some w) : ∀ (l : List (AV × AV)), (∀ e ∈ l, ∃ w', keyV e.1 = some w') → findB l k yes no = true →
    (∃ x, (k, x) ∈ l ∧ yes x = true) ∨ ((∀ x, (k, x) ∉ l) ∧ no = true)
  | [], _, h => .inr ⟨by simp, h⟩
  | e :: l, hl, h => by
    obtain ⟨w', hw'⟩ := hl e (by simp)
    have hq := eqKey_ok hw' hk
    replace h : @Bool.rec (fun _ => Bool) (findB l k yes no) (yes e.2) (eqKey e.1 k) = true := h
    cases hb : eqKey e.1 k with
    | true =>
      rw [hb] at h
      have := hq.1 hb
      exact .inl ⟨e.2, by rw [← this]; simp, h⟩
    | false =>
      rw [hb] at h
      have hne : e.1 ≠ k := fun x => by have := hq.2 x; rw [hb] at this; cases this
      rcases findB_ok hk l (fun x hx => hl x (by simp [hx])) h with ⟨x, h1, h2⟩ | ⟨h1, h2⟩
      · exact .inl ⟨x, by simp [h1], h2⟩
      · refine .inr ⟨fun x hx => ?_, h2⟩
        rcases List.mem_cons.1 hx with rfl | hx
        · exact hne rfl
        · exact h1 x hx
end
end Go.Run
