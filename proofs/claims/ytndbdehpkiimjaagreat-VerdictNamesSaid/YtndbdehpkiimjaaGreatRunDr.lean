
/- Closed runs: a region that draws its order, by a plan; looks of a whole heap may stand beside operations that only make new memory. -/
import Derived.Test.YtndbdehpkiimjaaGreatRunW
namespace Go.Run
open Go.HL
set_option linter.unusedSimpArgs false
set_option linter.unusedVariables false
set_option linter.unusedVariables false

/-- A plan for a region: look at i (f: at the whole heap), then go on; or one of several that act. -/
inductive Plan where
  | fin
  | non
  | look (i : Nat) (f : Bool) (p : Plan)
  | lookx (i : Nat) (p : Plan)
  | lookp (i : Nat) (p : Plan)
  | act (i : Nat) (p alt : Plan)
  | actd (i : Nat) (p : Plan)
  | acth (i : Nat) (p : Plan)
def Plan.idxs : Plan → List Nat
  | .act i _ alt => i :: alt.idxs
  | _ => []
/-- The calls of a plan that change nothing. -/
def Plan.pures : Plan → List Nat
  | .look _ _ p => p.pures
  | .lookx _ p => p.pures
  | .lookp i p => i :: p.pures
  | .act _ p a => p.pures ++ a.pures
  | .actd _ p => p.pures
  | .acth _ p => p.pures
  | _ => []
def effP (ps : List Nat) (l : List Oper) (i : Nat) : Bool := effAt l i && !ps.contains i
theorem effP_t {ps : List Nat} {l : List Oper} {i : Nat} (h : effP ps l i = true) : effAt l i = true ∧ ps.contains i = false := by
  unfold effP at h
  simpa using h
def compP (ps : List Nat) (l : List Oper) (m : List Nat) (i : Nat) : Bool := (List.range l.length).all fun e => !effP ps l e || (m.getD i 0).testBit e || (m.getD e 0).testBit i
def flAt (l : List Oper) (i : Nat) : Bool := match l[i]? with
  | some o => isFl o
  | none => false
/-- A look that may stand beside operations that only make new memory. -/
def compX (ps : List Nat) (l : List Oper) (m : List Nat) (i : Nat) : Bool := (List.range l.length).all fun e => !effP ps l e || ((m.getD i 0).testBit e || (m.getD e 0).testBit i || flAt l e)
/-- The same heap with more behind it. -/
def Ext (H H' : Heap) : Prop := ∀ (r : Nat) (o : Obj), H[r]? = some o → H'[r]? = some o
theorem Ext.refl (H : Heap) : Ext H H := fun _ _ h => h
theorem Ext.trans {H H' H'' : Heap} (h : Ext H H') (h' : Ext H' H'') : Ext H H'' := fun r o ho => h' r o (h r o ho)
theorem Ext.push (H : Heap) (o : Obj) : Ext H (H.push o) := fun r x hx => by
  rw [Array.getElem?_push_lt (Array.getElem?_eq_some_iff.1 hx).1, ← Array.getElem?_eq_getElem (Array.getElem?_eq_some_iff.1 hx).1]; exact hx
theorem Ext.cell {H H' : Heap} (h : Ext H H') {a : Addr} {v : Value} (hv : cellH H a = some v) : cellH H' a = some v := by
  unfold cellH at hv ⊢
  cases ho : H[a.block]? with
  | none => rw [ho] at hv; cases hv
  | some o => rw [ho] at hv; rw [h _ _ ho]; exact hv
theorem Ext.makeV {P : Program} {H H' : Heap} {t : TypeId} {l c v : Value} (h : makeV P H t l c = some (v, H')) : Ext H H' := by
  unfold HL.makeV at h
  split at h
  · simp only [Option.bind_eq_some_iff] at h
    obtain ⟨_, _, _, _, _, _, z, _, h⟩ := h
    split at h
    · simp only [Option.some.injEq, Prod.mk.injEq] at h; rw [← h.2]; exact Ext.push _ _
    · cases h
  · cases h
theorem Ext.buildSliceV {P : Program} {H H' : Heap} {t : TypeId} {len : Nat} {parts : List (Nat × Value)} {v : Value} (h : buildSliceV P H t len parts = some (v, H')) : Ext H H' := by
  unfold HL.buildSliceV at h
  simp only [Option.bind_eq_some_iff] at h
  obtain ⟨_, _, _, _, z, _, h⟩ := h
  split at h
  · simp only [Option.map_eq_some_iff, Prod.mk.injEq] at h
    obtain ⟨_, _, _, h⟩ := h
    rw [← h]; exact Ext.push _ _
  · cases h
theorem opG_fl {n : Nat} {P : Program} {l : List Oper} {o : Oper} {ρ : En} {H : Heap} {K : En → Heap → Prop} {Q : Exit → En → Heap → Prop} (h : opG n P l.toArray o ρ H K Q) :
    opG n P l.toArray o ρ H (fun ρ' H' => K ρ' H' ∧ (isFl o = true → Ext H H')) Q := by
  cases hf : isFl o with
  | false => exact opG_mono (fun _ _ h => ⟨h, fun e => by cases e⟩) (fun _ _ _ h => h) h
  | true =>
    obtain ⟨hg, ho⟩ := isFl_op hf
    unfold opG at h ⊢
    rw [hg] at h ⊢
    obtain ⟨dst, op, type, pos, after, guard⟩ := o
    cases op with
    | alloc t =>
      have h : someW (zeroT P t) _ := h
      obtain ⟨z, hz, hk⟩ := someW_iff.1 h
      exact someW_iff.2 ⟨z, hz, hk, fun _ => Ext.push _ _⟩
    | makeSlice t l c =>
      have h : someW (makeV P H t (ρ.ev l) (ρ.ev c)) _ := h
      obtain ⟨z, hz, hk⟩ := someW_iff.1 h
      exact someW_iff.2 ⟨z, hz, hk, fun _ => Ext.makeV hz⟩
    | buildSlice t len parts =>
      have h : someW (buildSliceV P H t len (parts.toList.map fun p => (p.1, ρ.ev p.2))) _ := h
      obtain ⟨z, hz, hk⟩ := someW_iff.1 h
      exact someW_iff.2 ⟨z, hz, hk, fun _ => Ext.buildSliceV hz⟩
    | _ => cases ho

/-- mode true: a plan; false: the other choices of those that act. -/
def planOK (ps : List Nat) (l : List Oper) (m : List Nat) : Bool → Nat → Plan → Bool
  | true, d, .fin => (List.range l.length).all fun i => d.testBit i
  | true, d, .look i f p => decide (i < l.length) && !effAt l i && readyM m d i && (!f || compP ps l m i) && planOK ps l m true (d ||| 2 ^ i) p
  | true, d, .lookx i p => decide (i < l.length) && !effAt l i && readyM m d i && compX ps l m i && planOK ps l m true (d ||| 2 ^ i) p
  | true, d, .lookp i p => decide (i < l.length) && effAt l i && readyM m d i && ps.contains i && planOK ps l m true (d ||| 2 ^ i) p
  | true, d, .act i p alt => ((List.range l.length).all fun k => !readyM m d k || (effP ps l k && (i :: alt.idxs).contains k)) && decide (i < l.length) && effP ps l i && readyM m d i && planOK ps l m true (d ||| 2 ^ i) p && planOK ps l m false d alt
  | true, d, .acth i p => ((List.range l.length).all fun k => !readyM m d k || (effP ps l k && k == i)) && decide (i < l.length) && effP ps l i && readyM m d i && ((List.range l.length).all fun k => !d.testBit k || effAt l k || (m.getD i 0).testBit k || compP ps l m k) && planOK ps l m true (d ||| 2 ^ i) p
  | false, _, .non => true
  | false, d, .act i p alt => decide (i < l.length) && effP ps l i && readyM m d i && planOK ps l m true (d ||| 2 ^ i) p && planOK ps l m false d alt
  | _, _, _ => false
def drawOK (l : List Oper) (p : Plan) : Bool := edgesOK l && overOK l (masks l) && planOK p.pures l (masks l) true 0 p

/-- What is held tells what the look gives. -/
def LookH (P : Program) (l : List Oper) (hl : Heap → Prop) (o : Oper) (ρ : En) (v : Value) : Prop := ∀ H, hl H → ∃ V : HV, V.of H ∧ evalQ P V l o ρ = some v
theorem LookH.sub {P : Program} {l : List Oper} {hl hl' : Heap → Prop} {o : Oper} {ρ : En} {v : Value} (h : LookH P l hl o ρ v) (hs : ∀ H, hl' H → hl H) : LookH P l hl' o ρ v := fun H hh => h H (hs H hh)
/-- An operation that gives the same everywhere, and changes nothing. -/
def PureV (n : Nat) (P : Program) (l : List Oper) (o : Oper) (ρ : En) (v : Value) : Prop := ∀ H, opG n P l.toArray o ρ H (fun ρ' H' => ρ' = ρ.put n o.dst v ∧ H' = H) (fun _ _ _ => False)
def drawW (n : Nat) (P : Program) (l : List Oper) (hl : Heap → Prop) (Q : Exit → En → Heap → Prop) (p : Plan) (ρ : En) (H : Heap) : Prop := match p with
  | .fin => Q .normal ρ H
  | .non => True
  | .actd i p => match l[i]? with
    | none => False
    | some o => opG n P l.toArray o ρ H (drawW n P l (fun _ => True) Q p) Q
  | .acth i p => match l[i]? with
    | none => False
    | some o => opG n P l.toArray o ρ H (fun ρ' H' => ∃ hl', hl' H' ∧ drawW n P l hl' Q p ρ' H') Q
  | .look i f p => match l[i]? with
    | none => False
    | some o => if f then opG n P l.toArray o ρ H (drawW n P l hl Q p) Q else ∃ v, LookH P l hl o ρ v ∧ drawW n P l hl Q p (ρ.put n o.dst v) H
  | .lookx i p => match l[i]? with
    | none => False
    | some o => ∃ v, (∀ H', Ext H H' → evalQ P (full H') l o ρ = some v) ∧ drawW n P l hl Q p (ρ.put n o.dst v) H
  | .lookp i p => match l[i]? with
    | none => False
    | some o => isQ o.op = false ∧ ∃ v, PureV n P l o ρ v ∧ drawW n P l hl Q p (ρ.put n o.dst v) H
  | .act i p alt => (match l[i]? with
    | none => False
    | some o => opG n P l.toArray o ρ H (fun ρ' H' => ∃ hl', (∀ H, hl' H → hl H) ∧ hl' H' ∧ drawW n P l hl' Q p ρ' H') Q) ∧ drawW n P l hl Q alt ρ H

def headOK : Plan → Prop
  | .look _ _ _ => False
  | .lookx _ _ => False
  | .lookp _ _ => False
  | _ => True
def PV (ps : List Nat) (n : Nat) (P : Program) (l : List Oper) (hl : Heap → Prop) (H : Heap) (k : Nat) (o : Oper) (ρi : En) (v : Value) (f : Option (Option Bool)) : Prop := match f with
  | some (some true) => isQ o.op = true ∧ compP ps l (masks l) k = true ∧ evalQ P (full H) l o ρi = some v
  | some (some false) => isQ o.op = true ∧ LookH P l hl o ρi v
  | some none => isQ o.op = true ∧ compX ps l (masks l) k = true ∧ ∀ H', Ext H H' → evalQ P (full H') l o ρi = some v
  | none => isQ o.op = false ∧ PureV n P l o ρi v
theorem put_same {n : Nat} {e e0 : En} {d : Option Nat} {v r : Value} (h : e0.put n d v = e0.put n d r) : e.put n d v = e.put n d r := by
  cases d with
  | none => rfl
  | some d =>
    have := congrFun (congrArg En.get h) d
    rw [put_get, put_get] at this
    by_cases hdn : d < n
    · rw [if_pos ⟨rfl, hdn⟩, if_pos ⟨rfl, hdn⟩] at this; rw [this]
    · simp only [En.put]
      congr 1
      funext t
      rw [if_neg, if_neg] <;> (rintro ⟨rfl, h⟩; exact hdn h)

section
variable {ps : List Nat} {n : Nat} {P : Program} {l : List Oper} {hl : Heap → Prop} {Q : Exit → En → Heap → Prop} {ρ0 : En}

/-- The state of the plan beside a state of the drawn order. d: what the plan has carried out; fl: how it looked. -/
structure DSt (ps : List Nat) (n : Nat) (P : Program) (l : List Oper) (hl : Heap → Prop) (Q : Exit → En → Heap → Prop) (ρ0 : En) (S : Nat → Prop) (ρ : En) (H : Heap)
    (vals : Nat → Value) (fl : Nat → Option (Option Bool)) (d : Nat) (p : Plan) : Prop where
  ok : planOK ps l (masks l) true d p = true
  closed : Closed l (fun k => d.testBit k = true)
  env : ∀ t, ρ.get t = (ES n l vals ρ0 S l.length).get t
  sub : ∀ k, S k → d.testBit k = true
  eff : ∀ k, d.testBit k = true → effP ps l k = true → S k
  pend : ∀ k, d.testBit k = true → ¬ S k → ∃ o ρi, l[k]? = some o ∧ PV ps n P l hl H k o ρi (vals k) (fl k) ∧ ∀ t ∈ touch l k, ρi.get t = (ES n l vals ρ0 (· < k) l.length).get t
  cont : drawW n P l hl Q p (ES n l vals ρ0 (fun k => d.testBit k = true) l.length) H

theorem advance (hv : overOK l (masks l) = true) {S : Nat → Prop} {ρ : En} {H : Heap} : ∀ (p : Plan) (d : Nat) (fl : Nat → Option (Option Bool)) (vals : Nat → Value),
    DSt ps n P l hl Q ρ0 S ρ H vals fl d p → ∃ vals' fl' d' p', DSt ps n P l hl Q ρ0 S ρ H vals' fl' d' p' ∧ headOK p' := by
  intro p
  induction p with
  | fin => intro d fl vals h; exact ⟨vals, fl, d, .fin, h, trivial⟩
  | non => intro d fl vals h; exact ⟨vals, fl, d, .non, h, trivial⟩
  | act i p alt _ _ => intro d fl vals h; exact ⟨vals, fl, d, .act i p alt, h, trivial⟩
  | actd i p _ => intro d fl vals h; exact ⟨vals, fl, d, .actd i p, h, trivial⟩
  | acth i p _ => intro d fl vals h; exact ⟨vals, fl, d, .acth i p, h, trivial⟩
  | look i f p ih =>
    intro d fl vals h
    have hok := h.ok
    simp only [planOK, Bool.and_eq_true, decide_eq_true_eq, Bool.not_eq_true', Bool.or_eq_true] at hok
    obtain ⟨⟨⟨⟨hil, heff⟩, hrm⟩, hcomp⟩, hok'⟩ := hok
    obtain ⟨hr, hi⟩ := ready_of_mask hrm hil
    have hc := h.cont
    unfold drawW at hc
    have ho : l[i]? = some l[i] := by simp [hil]
    generalize l[i] = o at ho
    rw [ho] at hc
    have hq : isQ o.op = true := by
      unfold effAt at heff
      rw [ho] at heff
      simpa using heff
    have hns : ¬ S i := fun hs => hi (h.sub _ hs)
    have key : ∃ v, PV ps n P l hl H i o (ES n l vals ρ0 (fun k => d.testBit k = true) l.length) v (some (some f)) ∧ drawW n P l hl Q p ((ES n l vals ρ0 (fun k => d.testBit k = true) l.length).put n o.dst v) H := by
      cases f with
      | true =>
        obtain ⟨v, h1, h2⟩ := evalQ_of_G hq hc
        refine ⟨v, ⟨hq, ?_, h1⟩, h2⟩
        rcases hcomp with hcomp | hcomp
        · simp at hcomp
        · exact hcomp
      | false => obtain ⟨v, h1, h2⟩ := hc; exact ⟨v, ⟨hq, h1⟩, h2⟩
    obtain ⟨v, hev, hk⟩ := key
    refine ih (d ||| 2 ^ i) (fun k => if k = i then some (some f) else fl k) (fun k => if k = i then v else vals k) ?_
    refine { ok := hok', closed := closed_add h.closed hr, env := ?_, sub := fun k hs => bit_or.2 (.inl (h.sub k hs)), eff := ?_, pend := ?_, cont := ?_ }
    · intro t
      rw [h.env t, ES_vals (S' := S) (vals' := fun k => if k = i then v else vals k) (fun _ => Iff.rfl) (fun k hs => by have hne : k ≠ i := (fun e => hns (by rw [← e]; exact hs)); rw [if_neg hne])]
    · intro k hk' he
      rcases bit_or.1 hk' with hk' | rfl
      · exact h.eff k hk' he
      · have := (effP_t he).1; rw [heff] at this; simp at this
    · intro k hk' hnk
      rcases bit_or.1 hk' with hk' | rfl
      · obtain ⟨o', ρi, h1, h3, h4⟩ := h.pend k hk' hnk
        have hki : k ≠ i := fun e => hi (by rw [← e]; exact hk')
        refine ⟨o', ρi, h1, by rw [if_neg hki, if_neg hki]; exact h3, fun t ht => ?_⟩
        rw [h4 t ht]
        exact pend_keep hv h.closed hk' (List.getElem?_eq_some_iff.1 h1).1 hi (fun j hj => by rw [if_neg hj]) ht
      · refine ⟨o, ES n l vals ρ0 (fun k => d.testBit k = true) l.length, ho, ?_, fun t ht => ?_⟩
        · rw [if_pos rfl, if_pos rfl]
          exact hev
        · refine ES_fits (i := k) (fits_S hv h.closed hr hi ht) (fun j _ _ => Iff.rfl) hi (by simp) (fun j _ hlt => ?_) _
          rw [if_neg (by omega)]
    · rw [env_add hv ho h.closed hr hi]
      exact hk
  | lookx i p ih =>
    intro d fl vals h
    have hok := h.ok
    simp only [planOK, Bool.and_eq_true, decide_eq_true_eq, Bool.not_eq_true', Bool.or_eq_true] at hok
    obtain ⟨⟨⟨⟨hil, heff⟩, hrm⟩, hcomp⟩, hok'⟩ := hok
    obtain ⟨hr, hi⟩ := ready_of_mask hrm hil
    have hc := h.cont
    unfold drawW at hc
    have ho : l[i]? = some l[i] := by simp [hil]
    generalize l[i] = o at ho
    rw [ho] at hc
    have hq : isQ o.op = true := by
      unfold effAt at heff
      rw [ho] at heff
      simpa using heff
    have hns : ¬ S i := fun hs => hi (h.sub _ hs)
    obtain ⟨v, hev, hk⟩ := hc
    refine ih (d ||| 2 ^ i) (fun k => if k = i then some none else fl k) (fun k => if k = i then v else vals k) ?_
    refine { ok := hok', closed := closed_add h.closed hr, env := ?_, sub := fun k hs => bit_or.2 (.inl (h.sub k hs)), eff := ?_, pend := ?_, cont := ?_ }
    · intro t
      rw [h.env t, ES_vals (S' := S) (vals' := fun k => if k = i then v else vals k) (fun _ => Iff.rfl) (fun k hs => by have hne : k ≠ i := (fun e => hns (by rw [← e]; exact hs)); rw [if_neg hne])]
    · intro k hk' he
      rcases bit_or.1 hk' with hk' | rfl
      · exact h.eff k hk' he
      · have := (effP_t he).1; rw [heff] at this; simp at this
    · intro k hk' hnk
      rcases bit_or.1 hk' with hk' | rfl
      · obtain ⟨o', ρi, h1, h3, h4⟩ := h.pend k hk' hnk
        have hki : k ≠ i := fun e => hi (by rw [← e]; exact hk')
        refine ⟨o', ρi, h1, by rw [if_neg hki, if_neg hki]; exact h3, fun t ht => ?_⟩
        rw [h4 t ht]
        exact pend_keep hv h.closed hk' (List.getElem?_eq_some_iff.1 h1).1 hi (fun j hj => by rw [if_neg hj]) ht
      · refine ⟨o, ES n l vals ρ0 (fun k => d.testBit k = true) l.length, ho, ?_, fun t ht => ?_⟩
        · rw [if_pos rfl, if_pos rfl]
          exact ⟨hq, hcomp, hev⟩
        · refine ES_fits (i := k) (fits_S hv h.closed hr hi ht) (fun j _ _ => Iff.rfl) hi (by simp) (fun j _ hlt => ?_) _
          rw [if_neg (by omega)]
    · rw [env_add hv ho h.closed hr hi]
      exact hk
  | lookp i p ih =>
    intro d fl vals h
    have hok := h.ok
    simp only [planOK, Bool.and_eq_true, decide_eq_true_eq, Bool.not_eq_true', Bool.or_eq_true] at hok
    obtain ⟨⟨⟨⟨hil, heff⟩, hrm⟩, hcomp⟩, hok'⟩ := hok
    obtain ⟨hr, hi⟩ := ready_of_mask hrm hil
    have hc := h.cont
    unfold drawW at hc
    have ho : l[i]? = some l[i] := by simp [hil]
    generalize l[i] = o at ho
    rw [ho] at hc
    have hns : ¬ S i := fun hs => hi (h.sub _ hs)
    obtain ⟨hq, v, hev, hk⟩ := hc
    refine ih (d ||| 2 ^ i) (fun k => if k = i then none else fl k) (fun k => if k = i then v else vals k) ?_
    refine { ok := hok', closed := closed_add h.closed hr, env := ?_, sub := fun k hs => bit_or.2 (.inl (h.sub k hs)), eff := ?_, pend := ?_, cont := ?_ }
    · intro t
      rw [h.env t, ES_vals (S' := S) (vals' := fun k => if k = i then v else vals k) (fun _ => Iff.rfl) (fun k hs => by have hne : k ≠ i := (fun e => hns (by rw [← e]; exact hs)); rw [if_neg hne])]
    · intro k hk' he
      rcases bit_or.1 hk' with hk' | rfl
      · exact h.eff k hk' he
      · have := (effP_t he).2; rw [hcomp] at this; simp at this
    · intro k hk' hnk
      rcases bit_or.1 hk' with hk' | rfl
      · obtain ⟨o', ρi, h1, h3, h4⟩ := h.pend k hk' hnk
        have hki : k ≠ i := fun e => hi (by rw [← e]; exact hk')
        refine ⟨o', ρi, h1, by rw [if_neg hki, if_neg hki]; exact h3, fun t ht => ?_⟩
        rw [h4 t ht]
        exact pend_keep hv h.closed hk' (List.getElem?_eq_some_iff.1 h1).1 hi (fun j hj => by rw [if_neg hj]) ht
      · refine ⟨o, ES n l vals ρ0 (fun k => d.testBit k = true) l.length, ho, ?_, fun t ht => ?_⟩
        · rw [if_pos rfl, if_pos rfl]
          exact ⟨hq, hev⟩
        · refine ES_fits (i := k) (fits_S hv h.closed hr hi ht) (fun j _ _ => Iff.rfl) hi (by simp) (fun j _ hlt => ?_) _
          rw [if_neg (by omega)]
    · rw [env_add hv ho h.closed hr hi]
      exact hk

/-- The choice that is drawn among those that act. -/
theorem act_choice {d i : Nat} : ∀ (p : Plan), i ∈ p.idxs → ∀ ρ H, drawW n P l hl Q p ρ H → (∀ j q alt, p = .act j q alt → decide (j < l.length) = true ∧ effP ps l j = true ∧ readyM (masks l) d j = true ∧ planOK ps l (masks l) true (d ||| 2 ^ j) q = true ∧ planOK ps l (masks l) false d alt = true) →
    ∃ q o, l[i]? = some o ∧ planOK ps l (masks l) true (d ||| 2 ^ i) q = true ∧ opG n P l.toArray o ρ H (fun ρ' H' => ∃ hl', (∀ H, hl' H → hl H) ∧ hl' H' ∧ drawW n P l hl' Q q ρ' H') Q := by
  intro p
  induction p with
  | act j q alt _ ih =>
    intro hi ρ H hw hok
    obtain ⟨h1, _, _, h4, h5⟩ := hok j q alt rfl
    unfold drawW at hw
    simp only [Plan.idxs, List.mem_cons] at hi
    by_cases hij : i = j
    · subst hij
      have hil : i < l.length := by simpa using h1
      have ho : l[i]? = some l[i] := by simp [hil]
      refine ⟨q, l[i], ho, h4, ?_⟩
      have := hw.1
      rw [ho] at this
      exact this
    · refine ih (by rcases hi with hi | hi; exact absurd hi hij; exact hi) ρ H hw.2 ?_
      rintro j' q' alt' rfl
      simp only [planOK, Bool.and_eq_true] at h5
      obtain ⟨⟨⟨⟨g1, g2⟩, g3⟩, g4⟩, g5⟩ := h5
      exact ⟨g1, g2, g3, g4, g5⟩
  | _ => intro hi; simp [Plan.idxs] at hi

theorem draw_main (hpan : PanOK Q) (hv : overOK l (masks l) = true) (hedge : edgesOK l = true) {w0 : World} : ∀ (fuel : Nat) (hl : Heap → Prop) (listed : Array Bool) (ρ : En) (w : World) (a : Act)
    (vals : Nat → Value) (fl : Nat → Option (Option Bool)) (d : Nat) (p : Plan), listed.size = l.length → (List.range l.length).countP (fun k => !listed.getD k false) ≤ fuel → HL.Rest w0 w → Ag n a ρ → ρ.ds = ρ0.ds → hl w.heap →
    Closed l (fun k => listed.getD k false = true) → DSt ps n P l hl Q ρ0 (fun k => listed.getD k false = true) ρ w.heap vals fl d p → headOK p →
    wpAny P .any l.toArray (upQ n w0 Q) fuel listed a w := by
  have ready_of : ∀ (listed : Array Bool) (i : Nat), listed.size = l.length → i ∈ Region.ready .any l.toArray listed → Ready l (fun k => listed.getD k false = true) i ∧ ¬ listed.getD i false = true ∧ i < l.length := by
    intro listed i hs hi
    unfold Region.ready at hi
    simp only [List.size_toArray, List.mem_filter, List.mem_range, List.getElem?_toArray, Bool.and_eq_true, Bool.not_eq_true'] at hi
    obtain ⟨hil, hlist, hafter⟩ := hi
    refine ⟨⟨l[i], by simp [hil], ?_⟩, ?_, hil⟩
    · rw [show l[i]? = some l[i] from by simp [hil]] at hafter
      simp only [Option.map_some, Option.getD_some, Array.all_eq_true] at hafter
      intro e he hb
      obtain ⟨j, hj, hje⟩ := List.getElem_of_mem he
      have := hafter j (by simpa using hj)
      simp only [Array.getElem_toList] at hje
      rw [hje, hb] at this
      simpa using this
    · rw [Array.getD_eq_getD_getElem?] at hlist ⊢
      rw [Array.getElem?_eq_getElem (by omega)] at hlist ⊢
      simp only [Option.getD_some] at hlist ⊢
      simp [hlist]
  have finish : ∀ (hl : Heap → Prop) (listed : Array Bool) (ρ : En) (w : World) (a : Act) (vals : Nat → Value) (fl : Nat → Option (Option Bool)) (d : Nat) (p : Plan), listed.size = l.length → HL.Rest w0 w → Ag n a ρ → ρ.ds = ρ0.ds →
      DSt ps n P l hl Q ρ0 (fun k => listed.getD k false = true) ρ w.heap vals fl d p → headOK p → (∀ k, k < l.length → listed.getD k false = true) → upQ n w0 Q .normal a w := by
    intro hl listed ρ w a vals fl d p hs hr ha hds hst hhead hfull
    have hfin : p = .fin := by
      have hok := hst.ok
      cases p with
      | fin => rfl
      | non => simp [planOK] at hok
      | look i f q => exact hhead.elim
      | lookx i q => exact hhead.elim
      | lookp i q => exact hhead.elim
      | act i q alt =>
        exfalso
        simp only [planOK, Bool.and_eq_true, decide_eq_true_eq] at hok
        obtain ⟨⟨⟨⟨⟨_, hil⟩, _⟩, hrm⟩, _⟩, _⟩ := hok
        exact (ready_of_mask hrm hil).2 (hst.sub i (hfull i hil))
      | actd i q => simp [planOK] at hok
      | acth i q =>
        exfalso
        simp only [planOK, Bool.and_eq_true, decide_eq_true_eq] at hok
        obtain ⟨⟨⟨⟨⟨_, hil⟩, _⟩, hrm⟩, _⟩, _⟩ := hok
        exact (ready_of_mask hrm hil).2 (hst.sub i (hfull i hil))
    subst hfin
    have hc := hst.cont
    refine ⟨hr, ρ, ha, ?_⟩
    have e : ρ = ES n l vals ρ0 (fun k => d.testBit k = true) l.length := by
      refine En_ext (fun t => ?_) (by rw [ES_ds]; exact hds)
      rw [hst.env t]
      have eq : ∀ k, k ≤ l.length → (ES n l vals ρ0 (fun k => listed.getD k false = true) k) = ES n l vals ρ0 (fun k => d.testBit k = true) k := by
        intro k
        induction k with
        | zero => intro _; rfl
        | succ k ih =>
          intro hk
          have h1 := hfull k (by omega)
          rw [ES_succ, ES_succ, if_pos h1, if_pos (hst.sub k h1), ih (by omega)]
      rw [eq l.length (Nat.le_refl _)]
    rw [e]
    exact hc
  have stuck0 : ∀ (listed : Array Bool), listed.size = l.length → Region.ready .any l.toArray listed = [] → ∀ k, k < l.length → listed.getD k false = true := by
    intro listed hs hr k
    induction k using Nat.strongRecOn with
    | _ k ih =>
      intro hk
      cases hb : listed.getD k false with
      | true => rfl
      | false =>
        exfalso
        have : k ∈ Region.ready .any l.toArray listed := by
          unfold Region.ready
          simp only [List.size_toArray, List.mem_filter, List.mem_range, List.getElem?_toArray, Bool.and_eq_true, Bool.not_eq_true']
          refine ⟨hk, ?_, ?_⟩
          · rw [Array.getD_eq_getD_getElem?, Array.getElem?_eq_getElem (by omega)] at hb ⊢
            exact hb
          · rw [show l[k]? = some l[k] from by simp [hk]]
            simp only [Option.map_some, Option.getD_some, Array.all_eq_true]
            intro j hj
            cases hbe : Region.binds .any (l[k].after[j]) with
            | false => simp
            | true =>
              simp only [Bool.not_true, Bool.false_or]
              have hed := hedge
              unfold edgesOK at hed
              rw [List.all_eq_true] at hed
              have h1 := hed (l[k], k) (by rw [List.mem_zipIdx_iff_getElem?]; simp [hk])
              rw [List.all_eq_true] at h1
              have h2 := h1 (l[k].after[j]) (by simp)
              rw [hbe] at h2
              have h3 : (l[k].after[j]).on < k := by simpa using h2
              exact ih _ h3 (by omega)
        rw [hr] at this
        simp at this
  intro fuel
  induction fuel with
  | zero =>
    intro hl listed ρ w a vals fl d p hs hcnt hr ha hds hh hc hst hhead
    have hfull : ∀ k, k < l.length → listed.getD k false = true := by
      intro k hk
      have h0 : (List.range l.length).countP (fun k => !listed.getD k false) = 0 := by omega
      rw [List.countP_eq_zero] at h0
      simpa using h0 k (by simpa using hk)
    refine ⟨?_, finish hl listed ρ w a vals fl d p hs hr ha hds hst hhead hfull⟩
    cases hrd : Region.ready .any l.toArray listed with
    | nil => rfl
    | cons i r =>
      exfalso
      obtain ⟨_, h2, h3⟩ := ready_of listed i hs (by rw [hrd]; simp)
      exact h2 (hfull i h3)
  | succ fuel ih =>
    intro hl listed ρ w a vals fl d p hs hcnt hr ha hds hh hc hst hhead
    refine ⟨fun hrd => finish hl listed ρ w a vals fl d p hs hr ha hds hst hhead (stuck0 listed hs hrd), fun i hi => ?_⟩
    obtain ⟨hrdy, hni, hil⟩ := ready_of listed i hs hi
    have hset : ∀ k, (listed.setIfInBounds i true).getD k false = true ↔ (listed.getD k false = true ∨ k = i) := by
      intro k
      rw [Array.getD_eq_getD_getElem?, Array.getElem?_setIfInBounds, Array.getD_eq_getD_getElem?]
      by_cases e : i = k
      · subst e; simp [hs, hil]
      · have e' : ¬ k = i := fun x => e x.symm
        simp [e, e']
    have hcnt' : (List.range l.length).countP (fun k => !(listed.setIfInBounds i true).getD k false) ≤ fuel := by
      have := countP_lt (p := fun k => !listed.getD k false) (p' := fun k => !(listed.setIfInBounds i true).getD k false) (i := i) (by simpa using hni)
        (by have := (hset i).2 (.inr rfl); simp [this]) (fun k hk => by
          cases hb : listed.getD k false with
          | false => rfl
          | true => have := (hset k).2 (.inl hb); simp [this] at hk) (l := List.range l.length) (by simpa using hil)
      omega
    have hc' : Closed l (fun k => (listed.setIfInBounds i true).getD k false = true) := by
      intro j o hj hs' e he hb
      rcases (hset j).1 hs' with hs' | rfl
      · exact (hset _).2 (.inl (hc j o hj hs' e he hb))
      · obtain ⟨o', ho', hall'⟩ := hrdy
        rw [hj] at ho'
        simp only [Option.some.injEq] at ho'
        subst ho'
        exact (hset _).2 (.inl (hall' e he hb))
    have hs' : (listed.setIfInBounds i true).size = l.length := by simpa using hs
    obtain ⟨o, ho, _⟩ := id hrdy
    have hdst : dstOf l i = o.dst := by unfold dstOf; rw [ho]; rfl
    have henv : ∀ (vals' : Nat → Value), (∀ k, k ≠ i → vals' k = vals k) → ∀ t, (ρ.put n o.dst (vals' i)).get t = (ES n l vals' ρ0 (fun k => (listed.setIfInBounds i true).getD k false = true) l.length).get t := by
      intro vals' hvals t
      have := ES_add (n := n) (l := l) (vals := vals) (vals' := vals') (ρ0 := ρ0) (S := fun k => listed.getD k false = true) (S' := fun k => (listed.setIfInBounds i true).getD k false = true) (i := i)
        hset hni (fun k hk => hvals k (fun e => hni (by rw [← e]; exact hk))) (fun t k hd hk hne => fits_S hv hc hrdy hni (dst_touch hd) k hk hne) l.length hil t
      rw [this, hdst, put_get, put_get, hst.env t]
    have inDone : effP ps l i = false → d.testBit i = true := by
      intro heff
      cases hdi : d.testBit i with
      | true => rfl
      | false =>
        exfalso
        have hrm := mask_of_ready hc hrdy hst.sub (d := d) (by simp [hdi])
        have hok := hst.ok
        cases p with
        | fin =>
          simp only [planOK, List.all_eq_true] at hok
          have := hok i (by simpa using hil)
          rw [hdi] at this; simp at this
        | non => simp [planOK] at hok
        | look j f q => exact hhead.elim
        | lookx j q => exact hhead.elim
        | lookp j q => exact hhead.elim
        | act j q alt =>
          simp only [planOK, Bool.and_eq_true, List.all_eq_true] at hok
          have := hok.1.1.1.1.1 i (by simpa using hil)
          rw [hrm, heff] at this
          simp at this
        | actd j q => simp [planOK] at hok
        | acth j q =>
          simp only [planOK, Bool.and_eq_true, List.all_eq_true] at hok
          have := hok.1.1.1.1.1 i (by simpa using hil)
          rw [hrm, heff] at this
          simp at this
    cases hqi : isQ o.op with
    | true =>
      -- one that only looks: the plan has carried it out already
      have heff : effAt l i = false := by unfold effAt; rw [ho]; simp [hqi]
      have hin : d.testBit i = true := inDone (by unfold effP; rw [heff]; rfl)
      obtain ⟨o', ρi, h1, h3, h4⟩ := hst.pend i hin hni
      rw [ho] at h1
      simp only [Option.some.injEq] at h1
      subst h1
      have hag : ∀ t ∈ touch l i, ρi.get t = ρ.get t := by
        intro t ht
        rw [h4 t ht, hst.env t]
        exact (ES_fits (i := i) (fits_S hv hc hrdy hni ht) (fun k _ _ => Iff.rfl) hni (by simp) (fun _ _ _ => rfl) _).symm
      obtain ⟨V, hV, h3⟩ : ∃ V : HV, V.of w.heap ∧ evalQ P V l o ρi = some (vals i) := by
        unfold PV at h3
        split at h3
        · exact ⟨full w.heap, full_of _, h3.2.2⟩
        · exact h3.2 _ hh
        · exact ⟨full w.heap, full_of _, h3.2.2 _ (Ext.refl _)⟩
        · rw [hqi] at h3; cases h3.1
      rw [evalQ_congr ho hag] at h3
      refine evalQ_sound (V := V) ho ha hV h3 ?_
      refine ih hl (listed.setIfInBounds i true) (ρ.put n o.dst (vals i)) w (a.put o.dst (vals i)) vals fl d p hs' hcnt' hr (ha.put _ _) (by rw [ds_put]; exact hds) hh hc' ?_ hhead
      refine { ok := hst.ok, closed := hst.closed, env := henv vals (fun _ _ => rfl), sub := ?_, eff := fun k hk he => (hset _).2 (.inl (hst.eff k hk he)), pend := fun k hk hnk => hst.pend k hk (fun h => hnk ((hset _).2 (.inl h))), cont := hst.cont }
      intro k hk
      rcases (hset k).1 hk with hk | rfl
      · exact hst.sub k hk
      · exact hin
    | false =>
      have heff0 : effAt l i = true := by unfold effAt; rw [ho]; simp [hqi]
      cases hpi : ps.contains i with
      | true =>
      -- a call that changes nothing: the plan has carried it out already
      have hin : d.testBit i = true := inDone (by unfold effP; rw [heff0, hpi]; rfl)
      obtain ⟨o', ρi, h1, h3, h4⟩ := hst.pend i hin hni
      rw [ho] at h1
      simp only [Option.some.injEq] at h1
      subst h1
      have hag : ∀ t ∈ touch l i, ρi.get t = ρ.get t := by
        intro t ht
        rw [h4 t ht, hst.env t]
        exact (ES_fits (i := i) (fits_S hv hc hrdy hni ht) (fun k _ _ => Iff.rfl) hni (by simp) (fun _ _ _ => rfl) _).symm
      have h3 : PureV n P l o ρi (vals i) := by
        unfold PV at h3
        split at h3
        · rw [hqi] at h3; cases h3.1
        · rw [hqi] at h3; cases h3.1
        · rw [hqi] at h3; cases h3.1
        · exact h3.2
      have hG := opG_trans (K' := fun ρ' H' => ρ' = ρ.put n o.dst (vals i) ∧ H' = w.heap) (Q' := Q) ho hqi hag (fun v H' h => ⟨put_same h.1, h.2⟩) (fun c H' h => h.elim) (h3 w.heap)
      have hS := opG_sound hr ha hG
      unfold wpOp
      simp only [List.getElem?_toArray, ho]
      have next : ∀ a' w', up n w0 (fun ρ' H' => ρ' = ρ.put n o.dst (vals i) ∧ H' = w.heap) a' w' → wpAny P .any l.toArray (upQ n w0 Q) fuel (listed.setIfInBounds i true) a' w' := by
        rintro a' w' ⟨hr', ρ', ha', rfl, hheap⟩
        refine ih hl (listed.setIfInBounds i true) (ρ.put n o.dst (vals i)) w' a' vals fl d p hs' hcnt' hr' ha' (by rw [ds_put]; exact hds) (by rw [hheap]; exact hh) hc' ?_ hhead
        rw [hheap]
        refine { ok := hst.ok, closed := hst.closed, env := henv vals (fun _ _ => rfl), sub := ?_, eff := fun k hk he => (hset _).2 (.inl (hst.eff k hk he)), pend := fun k hk hnk => hst.pend k hk (fun h => hnk ((hset _).2 (.inl h))), cont := hst.cont }
        intro k hk
        rcases (hset k).1 hk with hk | rfl
        · exact hst.sub k hk
        · exact hin
      split
      · rename_i hw
        rw [if_pos hw] at hS
        exact hS.imp (Oper.wp_mono next) id
      · rename_i hw
        rw [if_neg hw] at hS
        exact next _ _ hS
      | false =>
      have heff : effP ps l i = true := by unfold effP; rw [heff0, hpi]; rfl
      have hnin : ¬ d.testBit i = true := fun h => hni (hst.eff i h heff)
      have hrm := mask_of_ready hc hrdy hst.sub hnin
      have hrd := (ready_of_mask hrm hil).1
      have hok := hst.ok
      cases p with
      | fin =>
        exfalso
        simp only [planOK, List.all_eq_true] at hok
        exact hnin (hok i (by simpa using hil))
      | non => simp [planOK] at hok
      | look j f q => exact hhead.elim
      | lookx j q => exact hhead.elim
      | lookp j q => exact hhead.elim
      | act j q alt =>
        simp only [planOK, Bool.and_eq_true] at hok
        obtain ⟨⟨⟨⟨⟨g0, g1⟩, g2⟩, g3⟩, g4⟩, g5⟩ := hok
        have hmem : i ∈ (Plan.act j q alt).idxs := by
          rw [List.all_eq_true] at g0
          have := g0 i (by simpa using hil)
          rw [hrm, heff] at this
          simpa [Plan.idxs] using this
        obtain ⟨q', o', ho', hokq, hcont⟩ := act_choice (d := d) (.act j q alt) hmem _ _ hst.cont (by
          rintro j' q' alt' he
          simp only [Plan.act.injEq] at he
          obtain ⟨rfl, rfl, rfl⟩ := he
          exact ⟨g1, g2, g3, g4, g5⟩)
        rw [ho] at ho'
        simp only [Option.some.injEq] at ho'
        subst ho'
        have hag : ∀ t ∈ touch l i, (ES n l vals ρ0 (fun k => d.testBit k = true) l.length).get t = ρ.get t := by
          intro t ht
          rw [hst.env t]
          exact ES_fits (i := i) (fits_S hv hst.closed hrd hnin ht) (fits_S hv hc hrdy hni ht) hnin hni (fun _ _ _ => rfl) _
        have hG := opG_trans (K' := fun ρ' H' => ∃ v, ρ' = ρ.put n o.dst v ∧ (isFl o = true → Ext w.heap H') ∧ ∃ hl', (∀ H, hl' H → hl H) ∧ hl' H' ∧ drawW n P l hl' Q q' ((ES n l vals ρ0 (fun k => d.testBit k = true) l.length).put n o.dst v) H') ho hqi hag
          (fun v H' h => ⟨v, rfl, h.2, h.1⟩) (fun c H' h => hpan c _ _ H' (by rw [ES_ds]; exact hds.symm) h) (opG_fl hcont)
        have hS := opG_sound hr ha hG
        unfold wpOp
        simp only [List.getElem?_toArray, ho]
        have next : ∀ a' w', up n w0 (fun ρ' H' => ∃ v, ρ' = ρ.put n o.dst v ∧ (isFl o = true → Ext w.heap H') ∧ ∃ hl', (∀ H, hl' H → hl H) ∧ hl' H' ∧ drawW n P l hl' Q q' ((ES n l vals ρ0 (fun k => d.testBit k = true) l.length).put n o.dst v) H') a' w' →
            wpAny P .any l.toArray (upQ n w0 Q) fuel (listed.setIfInBounds i true) a' w' := by
          rintro a' w' ⟨hr', ρ', ha', v, rfl, hext, hl', hsub, hh', hk⟩
          have hst' : DSt ps n P l hl' Q ρ0 (fun k => (listed.setIfInBounds i true).getD k false = true) (ρ.put n o.dst v) w'.heap (fun k => if k = i then v else vals k) fl (d ||| 2 ^ i) q' := by
            refine { ok := hokq, closed := closed_add hst.closed hrd, env := ?_, sub := ?_, eff := ?_, pend := ?_, cont := ?_ }
            · have := henv (fun k => if k = i then v else vals k) (fun k hk => if_neg hk)
              simpa using this
            · intro k hk
              rcases (hset k).1 hk with hk | rfl
              · exact bit_or.2 (.inl (hst.sub k hk))
              · exact bit_or.2 (.inr rfl)
            · intro k hk he
              rcases bit_or.1 hk with hk | rfl
              · exact (hset _).2 (.inl (hst.eff k hk he))
              · exact (hset _).2 (.inr rfl)
            · intro k hk hnk
              rcases bit_or.1 hk with hk | rfl
              · have hnk' : ¬ listed.getD k false = true := fun h => hnk ((hset _).2 (.inl h))
                obtain ⟨o', ρi, h1, h3, h4⟩ := hst.pend k hk hnk'
                have hki : k ≠ i := fun e => hnin (by rw [← e]; exact hk)
                have hkl := (List.getElem?_eq_some_iff.1 h1).1
                refine ⟨o', ρi, h1, ?_, fun t ht => ?_⟩
                · rw [if_neg hki]
                  have side : ((masks l).getD k 0).testBit i = true ∨ ((masks l).getD i 0).testBit k = true → False := by
                    rintro (h5 | h5)
                    · exact hnin (masks_spec hst.closed h5 ⟨l[k], by simp [hkl], fun e he hb => hst.closed k l[k] (by simp [hkl]) hk e he hb⟩)
                    · exact hnk' (masks_spec hc h5 hrdy)
                  unfold PV at h3 ⊢
                  cases hfk : fl k with
                  | none => rw [hfk] at h3; exact h3
                  | some f =>
                  cases f with
                  | none =>
                    rw [hfk] at h3
                    refine ⟨h3.1, h3.2.1, fun H' hH => h3.2.2 H' ((hext ?_).trans hH)⟩
                    have hcomp := h3.2.1
                    unfold compX at hcomp
                    rw [List.all_eq_true] at hcomp
                    have h5 := hcomp i (by simpa using hil)
                    rw [heff] at h5
                    simp only [Bool.not_true, Bool.false_or, Bool.or_eq_true] at h5
                    rcases h5 with h5 | h5
                    · exact (side h5).elim
                    · unfold flAt at h5; rw [ho] at h5; exact h5
                  | some b =>
                    rw [hfk] at h3
                    cases b with
                    | false => exact ⟨h3.1, LookH.sub h3.2 hsub⟩
                    | true =>
                      exfalso
                      have hcomp := h3.2.1
                      unfold compP at hcomp
                      rw [List.all_eq_true] at hcomp
                      have h5 := hcomp i (by simpa using hil)
                      rw [heff] at h5
                      simp only [Bool.not_true, Bool.false_or, Bool.or_eq_true] at h5
                      exact side h5
                · rw [h4 t ht]
                  exact pend_keep hv hst.closed hk (List.getElem?_eq_some_iff.1 h1).1 hnin (fun j hj => by rw [if_neg hj]) ht
              · exact absurd ((hset _).2 (.inr rfl)) hnk
            · rw [env_add hv ho hst.closed hrd hnin]
              exact hk
          obtain ⟨vals', fl', d', p', hst'', hhead'⟩ := advance hv q' _ _ _ hst'
          exact ih hl' (listed.setIfInBounds i true) (ρ.put n o.dst v) w' a' vals' fl' d' p' hs' hcnt' hr' ha' (by rw [ds_put]; exact hds) hh' hc' hst'' hhead'
        split
        · rename_i hw
          rw [if_pos hw] at hS
          exact hS.imp (Oper.wp_mono next) id
        · rename_i hw
          rw [if_neg hw] at hS
          exact next _ _ hS
      | actd j q => simp [planOK] at hok
      | acth j q =>
        simp only [planOK, Bool.and_eq_true] at hok
        obtain ⟨⟨⟨⟨⟨g0, g1⟩, g2⟩, g3⟩, gd⟩, g4⟩ := hok
        have hij : i = j := by
          rw [List.all_eq_true] at g0
          have := g0 i (by simpa using hil)
          rw [hrm, heff] at this
          simpa using this
        subst hij
        have hcont : opG n P l.toArray o (ES n l vals ρ0 (fun k => d.testBit k = true) l.length) w.heap (fun ρ' H' => ∃ hl', hl' H' ∧ drawW n P l hl' Q q ρ' H') Q := by
          have := hst.cont
          unfold drawW at this
          rw [ho] at this
          exact this
        have hag : ∀ t ∈ touch l i, (ES n l vals ρ0 (fun k => d.testBit k = true) l.length).get t = ρ.get t := by
          intro t ht
          rw [hst.env t]
          exact ES_fits (i := i) (fits_S hv hst.closed hrd hnin ht) (fits_S hv hc hrdy hni ht) hnin hni (fun _ _ _ => rfl) _
        have hG := opG_trans (K' := fun ρ' H' => ∃ v, ρ' = ρ.put n o.dst v ∧ ∃ hl', hl' H' ∧ drawW n P l hl' Q q ((ES n l vals ρ0 (fun k => d.testBit k = true) l.length).put n o.dst v) H') ho hqi hag
          (fun v H' h => ⟨v, rfl, h⟩) (fun c H' h => hpan c _ _ H' (by rw [ES_ds]; exact hds.symm) h) hcont
        have hS := opG_sound hr ha hG
        unfold wpOp
        simp only [List.getElem?_toArray, ho]
        have next : ∀ a' w', up n w0 (fun ρ' H' => ∃ v, ρ' = ρ.put n o.dst v ∧ ∃ hl', hl' H' ∧ drawW n P l hl' Q q ((ES n l vals ρ0 (fun k => d.testBit k = true) l.length).put n o.dst v) H') a' w' →
            wpAny P .any l.toArray (upQ n w0 Q) fuel (listed.setIfInBounds i true) a' w' := by
          rintro a' w' ⟨hr', ρ', ha', v, rfl, hl', hh', hk⟩
          have hst' : DSt ps n P l hl' Q ρ0 (fun k => (listed.setIfInBounds i true).getD k false = true) (ρ.put n o.dst v) w'.heap (fun k => if k = i then v else vals k) fl (d ||| 2 ^ i) q := by
            refine { ok := g4, closed := closed_add hst.closed hrd, env := ?_, sub := ?_, eff := ?_, pend := ?_, cont := ?_ }
            · have := henv (fun k => if k = i then v else vals k) (fun k hk => if_neg hk)
              simpa using this
            · intro k hk
              rcases (hset k).1 hk with hk | rfl
              · exact bit_or.2 (.inl (hst.sub k hk))
              · exact bit_or.2 (.inr rfl)
            · intro k hk he
              rcases bit_or.1 hk with hk | rfl
              · exact (hset _).2 (.inl (hst.eff k hk he))
              · exact (hset _).2 (.inr rfl)
            · intro k hk hnk
              rcases bit_or.1 hk with hk | rfl
              · have hnk' : ¬ listed.getD k false = true := fun h => hnk ((hset _).2 (.inl h))
                obtain ⟨o', ρi, h1, h3, h4⟩ := hst.pend k hk hnk'
                have hkl := (List.getElem?_eq_some_iff.1 h1).1
                have hki : k ≠ i := fun e => hnin (by rw [← e]; exact hk)
                cases h2 : isQ o'.op with
                | false =>
                  refine ⟨o', ρi, h1, ?_, fun t ht => ?_⟩
                  · rw [if_neg hki]
                    unfold PV at h3 ⊢
                    cases hfk : fl k with
                    | none => rw [hfk] at h3; exact h3
                    | some f =>
                      rw [hfk] at h3
                      exfalso
                      cases f with
                      | none => rw [h2] at h3; cases h3.1
                      | some b => cases b <;> (rw [h2] at h3; cases h3.1)
                  · rw [h4 t ht]
                    exact pend_keep hv hst.closed hk hkl hnin (fun j hj => by rw [if_neg hj]) ht
                | true =>
                  exfalso
                  have hke : effAt l k = false := by unfold effAt; rw [h1]; simp [h2]
                  rw [List.all_eq_true] at gd
                  have h5 := gd k (by simpa using hkl)
                  rw [hk, hke] at h5
                  simp only [Bool.not_true, Bool.false_or, Bool.or_eq_true] at h5
                  rcases h5 with h5 | hcomp
                  · exact hnk' (masks_spec hc h5 hrdy)
                  · unfold compP at hcomp
                    rw [List.all_eq_true] at hcomp
                    have h6 := hcomp i (by simpa using hil)
                    rw [heff] at h6
                    simp only [Bool.not_true, Bool.false_or, Bool.or_eq_true] at h6
                    rcases h6 with h6 | h6
                    · exact hnin (masks_spec hst.closed h6 ⟨l[k], by simp [hkl], fun e he hb => hst.closed k l[k] (by simp [hkl]) hk e he hb⟩)
                    · exact hnk' (masks_spec hc h6 hrdy)
              · exact absurd ((hset _).2 (.inr rfl)) hnk
            · rw [env_add hv ho hst.closed hrd hnin]
              exact hk
          obtain ⟨vals', fl', d', p', hst'', hhead'⟩ := advance hv q _ _ _ hst'
          exact ih hl' (listed.setIfInBounds i true) (ρ.put n o.dst v) w' a' vals' fl' d' p' hs' hcnt' hr' ha' (by rw [ds_put]; exact hds) hh' hc' hst'' hhead'
        split
        · rename_i hw
          rw [if_pos hw] at hS
          exact hS.imp (Oper.wp_mono next) id
        · rename_i hw
          rw [if_neg hw] at hS
          exact next _ _ hS

/-- A region that draws its order, by a plan. -/
theorem draw_by {id : Nat} {ρ : En} {H : Heap} (p : Plan) (hl : Heap → Prop) (hm : P.follows .mixedOrders = true) (hok : drawOK l p = true) (hpan : PanOK Q) (hh : hl H)
    (h : drawW n P l hl Q p ρ H) : @stop ⟨CW n P (.region id l.toArray true) Q ρ H⟩ := by
  intro w0 w a hr hw ha
  subst hw
  unfold drawOK at hok
  simp only [Bool.and_eq_true] at hok
  obtain ⟨⟨h1, h2⟩, h3⟩ := hok
  refine wp_region_any hm ?_
  have none : ∀ k, ¬ (Array.replicate l.toArray.size false).getD k false = true := by
    intro k
    rw [Array.getD_eq_getD_getElem?, Array.getElem?_replicate]
    split <;> simp
  have hst : DSt p.pures n P l hl Q ρ (fun k => (Array.replicate l.toArray.size false).getD k false = true) ρ w.heap (fun _ => undef) (fun _ => some (some false)) 0 p := by
    have e0 : ∀ (S : Nat → Prop), (∀ k, ¬ S k) → ∀ k, ES n l (fun _ => undef) ρ S k = ρ := by
      intro S hS k
      induction k with
      | zero => rfl
      | succ k ih => rw [ES_succ, if_neg (hS k), ih]
    refine { ok := h3, closed := fun j o _ hs => by simp at hs, env := fun t => by rw [e0 _ none], sub := fun k hk => absurd hk (none k), eff := fun k hk => by simp at hk, pend := fun k hk => by simp at hk, cont := ?_ }
    rw [e0 _ (fun k => by simp)]
    exact h
  obtain ⟨vals', fl', d', p', hst', hhead⟩ := advance h2 p 0 _ _ hst
  refine draw_main hpan h2 h1 _ hl _ ρ { w with drawn := w.drawn + 1 } a vals' fl' d' p' (by simp) ?_ ⟨hr.os, hr.tape, hr.output⟩ ha rfl hh ?_ hst' hhead
  · exact Nat.le_trans (List.countP_le_length) (by simp)
  · intro j o hj hs
    exact absurd hs (none j)
end
end Go.Run
