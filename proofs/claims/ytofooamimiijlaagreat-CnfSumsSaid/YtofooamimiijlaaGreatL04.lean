/- A region that draws its order: one walk in a fixed order serves for all orders. -/
import Derived.Test.YtofooamimiijlaaGreatL03
namespace Go.HL

/-! ### Operations that only look -/
def isQ : Op → Bool
  | .move _ | .assign _ | .pick .. | .load .. | .nilCheck _ | .binOp .. | .unOp .. | .convert .. | .makeInterface .. | .makeFunc .. | .slice .. | .fieldAddr .. | .field .. | .indexAddr .. | .index ..
  | .lookup .. | .typeAssert .. | .extract .. | .build .. => true
  | .call c => match c.callee with
    | .builtin .len | .builtin .max | .builtin .min | .builtin .cap => true
    | _ => false
  | _ => false

theorem map_congr {ρ ρ' : Operand → Value} : ∀ (l : List Operand), (∀ x ∈ l, ρ x = ρ' x) → l.map ρ = l.map ρ' := fun _ h => List.map_congr_left h
theorem optMap_congr {ρ ρ' : Operand → Value} : ∀ (o : Option Operand), (∀ x, o = some x → ρ x = ρ' x) → optMap ρ o = optMap ρ' o
  | none, _ => rfl
  | some x, h => by simp only [optMap, h x rfl]

theorem opQ_congr {P : Program} {V : HV} {ρ ρ' : Operand → Value} {op : Op} (h : ∀ x ∈ op.operands.toList, ρ x = ρ' x) : opQ P V ρ op = opQ P V ρ' op := by
  cases op with
  | move x => simp only [opQ]; rw [h x (by simp [Op.operands])]
  | assign x => simp only [opQ]; rw [h x (by simp [Op.operands])]
  | pick c a b => simp only [opQ]; rw [h c (by simp [Op.operands]), h a (by simp [Op.operands]), h b (by simp [Op.operands])]
  | load t a => simp only [opQ]; rw [h a (by simp [Op.operands])]
  | nilCheck x => simp only [opQ]; rw [h x (by simp [Op.operands])]
  | binOp o t x y t' => simp only [opQ]; rw [h x (by simp [Op.operands]), h y (by simp [Op.operands])]
  | unOp o t x => simp only [opQ]; rw [h x (by simp [Op.operands])]
  | convert a b x => simp only [opQ]; rw [h x (by simp [Op.operands])]
  | makeInterface a x => simp only [opQ]; rw [h x (by simp [Op.operands])]
  | makeFunc fn a b =>
    have h1 : a.toList.map ρ = a.toList.map ρ' := List.map_congr_left fun x hx => h x (by simp [Op.operands] at hx ⊢; exact .inl hx)
    have h2 : b.toList.map ρ = b.toList.map ρ' := List.map_congr_left fun x hx => h x (by simp [Op.operands] at hx ⊢; exact .inr hx)
    simp only [opQ]; rw [h1, h2]
  | slice t x lo hi mx =>
    simp only [opQ]
    rw [h x (by simp [Op.operands]), optMap_congr lo fun y hy => h y (by simp [Op.operands, hy]), optMap_congr hi fun y hy => h y (by simp [Op.operands, hy]), optMap_congr mx fun y hy => h y (by simp [Op.operands, hy])]
  | fieldAddr t x f => simp only [opQ]; rw [h x (by simp [Op.operands])]
  | field t x f => simp only [opQ]; rw [h x (by simp [Op.operands])]
  | indexAddr t x y => simp only [opQ]; rw [h x (by simp [Op.operands]), h y (by simp [Op.operands])]
  | index t x y => simp only [opQ]; rw [h x (by simp [Op.operands]), h y (by simp [Op.operands])]
  | lookup t x y ok => simp only [opQ]; rw [h x (by simp [Op.operands]), h y (by simp [Op.operands])]
  | typeAssert x t t' ok => simp only [opQ]; rw [h x (by simp [Op.operands])]
  | extract x i => simp only [opQ]; rw [h x (by simp [Op.operands])]
  | build t parts =>
    have e : (parts.toList.map fun p => (p.1, ρ p.2)) = parts.toList.map fun p => (p.1, ρ' p.2) := by
      apply List.map_congr_left
      intro p hp
      rw [h p.2 (by simp only [Op.operands, List.mem_map]; exact ⟨p, hp, rfl⟩)]
    simp only [opQ]; rw [e]
  | call c =>
    have h1 : c.args.toList.map ρ = c.args.toList.map ρ' := List.map_congr_left fun x hx => h x (by simp [Op.operands, Call.operands] at hx ⊢; exact .inr hx)
    simp only [opQ]; rw [h1]
  | _ => rfl

theorem opV_trans {n : Nat} {P : Program} {o : Oper} {ρ ρ' : En} {H : Heap} {K K' : En → Heap → Prop} {Q Q' : Exit → En → Heap → Prop} (hq : isQ o.op = false)
    (h : ∀ x ∈ o.op.operands.toList, ρ.ev x = ρ'.ev x) (hk : ∀ v H', K (ρ.put n o.dst v) H' → K' (ρ'.put n o.dst v) H') (hp : ∀ c H', Q (.panic c) ρ H' → Q' (.panic c) ρ' H')
    (hv : opV n P o ρ H K Q) : opV n P o ρ' H K' Q' := by
  obtain ⟨dst, op, type, pos, after, guard⟩ := o
  simp only at hq h hk
  unfold opV at hv ⊢
  simp only at hv ⊢
  have quiet : ∀ {o : Option Value}, o = none → someW o (fun v => K (ρ.put n dst v) H) → False := by
    intro o ho hs; subst ho; exact hs
  split at hv
  · rename_i t a x
    rw [← h a (by simp [Op.operands]), ← h x (by simp [Op.operands])]
    unfold ptrW at hv ⊢
    split at hv
    · rename_i ad ha
      simp only [withV, someW_iff] at hv ⊢
      obtain ⟨H', hs, hk'⟩ := hv
      exact ⟨H', hs, hk _ _ hk'⟩
    · exact hv.elim
  · simp only [someW_iff] at hv ⊢
    obtain ⟨z, hz, hk'⟩ := hv
    exact ⟨z, hz, hk _ _ hk'⟩
  · rename_i t x
    rw [← h x (by simp [Op.operands])]
    exact hk _ _ hv
  · rename_i t l c
    rw [← h l (by simp [Op.operands]), ← h c (by simp [Op.operands])]
    simp only [someW_iff] at hv ⊢
    obtain ⟨z, hz, hk'⟩ := hv
    exact ⟨z, hz, hk _ _ hk'⟩
  · rename_i t len parts
    have e : (parts.toList.map fun p => (p.1, ρ.ev p.2)) = parts.toList.map fun p => (p.1, ρ'.ev p.2) := by
      apply List.map_congr_left
      intro p hp
      rw [h p.2 (by simp only [Op.operands, List.mem_map]; exact ⟨p, hp, rfl⟩)]
    rw [← e]
    simp only [someW_iff] at hv ⊢
    obtain ⟨z, hz, hk'⟩ := hv
    exact ⟨z, hz, hk _ _ hk'⟩
  · exact hk _ _ hv
  · rename_i t m k x
    rw [← h m (by simp [Op.operands]), ← h k (by simp [Op.operands]), ← h x (by simp [Op.operands])]
    exact mapW_mono (fun H' => hk _ H') (fun v H' => hp _ H') hv
  · rename_i t m k x
    rw [← h m (by simp [Op.operands]), ← h k (by simp [Op.operands]), ← h x (by simp [Op.operands])]
    exact mapW_mono (fun H' => hk _ H') (fun v H' => hp _ H') hv
  · rename_i args ats
    split at hv
    · rename_i t xt s x ht hx
      have hs1 : ρ.ev s = ρ'.ev s := h s (by simp [Op.operands, Call.operands]; rw [← Array.mem_toList_iff, hx]; simp)
      have hx1 : ρ.ev x = ρ'.ev x := h x (by simp [Op.operands, Call.operands]; rw [← Array.mem_toList_iff, hx]; simp)
      simp only [withV] at hv ⊢
      rw [← hs1, ← hx1]
      unfold appW at hv ⊢
      split at hv
      · rename_i base len cap heq
        simp only [heq, someW_iff] at hv ⊢
        obtain ⟨e, he, size, hsz, bytes, hby, z, hz, m, hm, new, hnew, d, hd, hdi, hv⟩ := hv
        refine ⟨e, he, size, hsz, bytes, hby, z, hz, m, hm, new, hnew, d, hd, hdi, ?_⟩
        split at hv
        · rename_i hf
          rw [if_pos hf]
          cases base with
          | none => exact hk _ _ hv
          | some a =>
            obtain ⟨H', h1, h2⟩ := hv
            exact ⟨H', h1, hk _ _ h2⟩
        · rename_i hf
          rw [if_neg hf]
          obtain ⟨h1, h2, h3, old, h4, h5⟩ := hv
          exact ⟨h1, h2, h3, old, h4, fun nc a b => hk _ _ (h5 nc a b)⟩
      · exact hv.elim
    · exact hv.elim
  · rename_i args ats
    have h1 : args.toList.map ρ.ev = args.toList.map ρ'.ev := List.map_congr_left fun x hx => h x (by simp [Op.operands, Call.operands] at hx ⊢; exact hx)
    rw [← h1]
    exact hwp_mono P _ _ _ _ _ _ (fun v H' hx => hk v H' hx) (fun _ _ hx => hx) hv
  · rename_i args ats
    have h1 : args.toList.map ρ.ev = args.toList.map ρ'.ev := List.map_congr_left fun x hx => h x (by simp [Op.operands, Call.operands] at hx ⊢; exact hx)
    rw [← h1]
    exact hwp_mono P _ _ _ _ _ _ (fun v H' hx => hk v H' hx) (fun _ _ hx => hx) hv
  · rename_i args ats
    have h1 : args.toList.map ρ.ev = args.toList.map ρ'.ev := List.map_congr_left fun x hx => h x (by simp [Op.operands, Call.operands] at hx ⊢; exact hx)
    rw [← h1]
    exact hwp_mono P _ _ _ _ _ _ (fun v H' hx => hk v H' hx) (fun _ _ hx => hx) hv
  · rename_i f args ats
    have h1 : args.toList.map ρ.ev = args.toList.map ρ'.ev := List.map_congr_left fun x hx => h x (by simp [Op.operands, Call.operands] at hx ⊢; exact .inr hx)
    rw [← h f (by simp [Op.operands, Call.operands]), ← h1]
    unfold callV at hv ⊢
    split at hv
    · exact hv.mono (fun v H' => hk v H') (fun c H' => hp c H')
    · exact hv.elim
  · rename_i r m args ats
    have h1 : args.toList.map ρ.ev = args.toList.map ρ'.ev := List.map_congr_left fun x hx => h x (by simp [Op.operands, Call.operands] at hx ⊢; exact .inr hx)
    rw [← h r (by simp [Op.operands, Call.operands]), ← h1]
    exact invW.mono hv (fun v H' => hk v H') (fun c H' => hp c H')
  · rename_i x
    rw [← h x (by simp [Op.operands])]
    unfold panW at hv ⊢
    split at hv
    · exact hp _ _ hv
    · exact hv.elim
  · rename_i h1 h2 h3 h4 h5 h6 h9 h10 h7 hu1 hu2 h8 hinv hpan
    exfalso
    refine quiet ?_ hv
    cases op with
    | call c =>
      obtain ⟨callee, args, ats⟩ := c
      cases callee with
      | value f => exact absurd rfl (h8 f args ats)
      | invoke r m => exact absurd rfl (hinv r m args ats)
      | builtin b => cases b <;> simp [isQ] at hq <;> first | rfl | exact absurd rfl (h7 args ats) | exact absurd rfl (hu1 args ats) | exact absurd rfl (hu2 args ats)
    | panic x => exact absurd rfl (hpan x)
    | _ => first | rfl | (simp [isQ] at hq; done)

/-! ### Which operation comes before which -/
def maskOf (acc : List Nat) (es : List Edge) : Nat := es.foldr (fun e s => if Region.binds .any e then s ||| 2 ^ e.on ||| acc.getD e.on 0 else s) 0
def masksGo : List Oper → List Nat → List Nat
  | [], acc => acc
  | o :: l, acc => masksGo l (acc ++ [maskOf acc o.after.toList])
def masks (l : List Oper) : List Nat := masksGo l []

def Closed (l : List Oper) (S : Nat → Prop) : Prop := ∀ j o, l[j]? = some o → S j → ∀ e ∈ o.after.toList, Region.binds .any e = true → S e.on
def Ready (l : List Oper) (S : Nat → Prop) (j : Nat) : Prop := ∃ o, l[j]? = some o ∧ ∀ e ∈ o.after.toList, Region.binds .any e = true → S e.on

theorem maskOf_bit {acc : List Nat} {i : Nat} : ∀ (es : List Edge), (maskOf acc es).testBit i = true → ∃ e ∈ es, Region.binds .any e = true ∧ (i = e.on ∨ (acc.getD e.on 0).testBit i = true) := by
  intro es
  induction es with
  | nil => intro h; simp [maskOf] at h
  | cons e es ih =>
    intro h
    unfold maskOf at h
    simp only [List.foldr_cons] at h
    split at h
    · rename_i hb
      simp only [Nat.testBit_or, Bool.or_eq_true] at h
      rcases h with (h | h) | h
      · obtain ⟨e', he', h'⟩ := ih h
        exact ⟨e', List.mem_cons_of_mem _ he', h'⟩
      · rw [Nat.testBit_two_pow] at h
        exact ⟨e, List.mem_cons_self, hb, .inl (by simpa using h : e.on = i).symm⟩
      · exact ⟨e, List.mem_cons_self, hb, .inr h⟩
    · obtain ⟨e', he', h'⟩ := ih h
      exact ⟨e', List.mem_cons_of_mem _ he', h'⟩

theorem masksGo_spec {l : List Oper} {S : Nat → Prop} (hS : Closed l S) : ∀ (r : List Oper) (k : Nat) (acc : List Nat), acc.length = k → (∀ j, r[j]? = l[k + j]?) → k + r.length = l.length →
    (∀ j i, j < k → (acc.getD j 0).testBit i = true → Ready l S j → S i) →
    ∀ j i, ((masksGo r acc).getD j 0).testBit i = true → Ready l S j → S i := by
  intro r
  induction r with
  | nil =>
    intro k acc hk _ _ hacc j i hb hr
    by_cases hj : j < k
    · exact hacc j i hj hb hr
    · simp only [masksGo, List.getD_eq_getElem?_getD] at hb
      rw [List.getElem?_eq_none (by omega)] at hb
      simp at hb
  | cons o r ih =>
    intro k acc hk hr hlen hacc j i hb hrd
    refine ih (k + 1) (acc ++ [maskOf acc o.after.toList]) (by simp [hk]) (fun j => by have := hr (j + 1); simpa [Nat.add_assoc, Nat.add_comm 1] using this) (by simp at hlen; omega) ?_ j i hb hrd
    intro j i hj hb hrd
    by_cases hjk : j < k
    · refine hacc j i hjk ?_ hrd
      rw [List.getD_eq_getElem?_getD] at hb ⊢
      rwa [List.getElem?_append_left (by omega)] at hb
    · have hjk' : j = k := by omega
      subst hjk'
      rw [List.getD_eq_getElem?_getD, List.getElem?_append_right (by omega), hk] at hb
      simp only [Nat.sub_self, List.getElem?_cons_zero, Option.getD_some] at hb
      obtain ⟨e, he, hbe, hor⟩ := maskOf_bit _ hb
      obtain ⟨o', ho', hall⟩ := hrd
      have : o' = o := by have := hr 0; simp at this; rw [← this] at ho'; simpa using ho'.symm
      subst this
      have hSe := hall e he hbe
      rcases hor with rfl | hor
      · exact hSe
      · by_cases hek : e.on < j
        · cases hl : l[e.on]? with
          | none =>
            exfalso
            have : l.length ≤ e.on := by simpa using hl
            omega
          | some oe => exact hacc e.on i hek hor ⟨oe, hl, fun e' he' hb' => hS e.on oe hl hSe e' he' hb'⟩
        · rw [List.getD_eq_getElem?_getD, List.getElem?_eq_none (by omega)] at hor
          simp at hor

theorem masks_spec {l : List Oper} {S : Nat → Prop} (hS : Closed l S) {j i : Nat} (hb : ((masks l).getD j 0).testBit i = true) (hr : Ready l S j) : S i :=
  masksGo_spec hS l 0 [] rfl (by simp) (by simp) (by intro j i hj; omega) j i hb hr

/-! ### The slots that an operation touches -/
def tmpsL : List Operand → List Nat
  | [] => []
  | .tmp t :: l => t :: tmpsL l
  | _ :: l => tmpsL l
theorem mem_tmpsL {t : Nat} : ∀ {l : List Operand}, Operand.tmp t ∈ l → t ∈ tmpsL l
  | [], h => by simp at h
  | x :: l, h => by
    rcases List.mem_cons.1 h with h | h
    · subst h; simp [tmpsL]
    · have := mem_tmpsL h; cases x <;> simp [tmpsL, this]
def dstOf (l : List Oper) (i : Nat) : Option Nat := (l[i]?).bind (·.dst)
def touch (l : List Oper) (i : Nat) : List Nat :=
  match l[i]? with
  | none => []
  | some o => o.dst.toList ++ tmpsL o.op.operands.toList ++ (match o.guard with | none => [] | some g => (dstOf l g.1).toList)
def overlap (l : List Oper) (i j : Nat) : Bool :=
  (match dstOf l i with | some d => (touch l j).contains d | none => false) || (match dstOf l j with | some d => (touch l i).contains d | none => false)
def effAt (l : List Oper) (i : Nat) : Bool := ((l[i]?).map fun o => !isQ o.op).getD false
/-- A plan for a region: look at i (f: at the whole heap), then go on; or one of several that act. -/
inductive Plan where
  | fin
  | non
  | look (i : Nat) (f : Bool) (p : Plan)
  | act (i : Nat) (p alt : Plan)
  | actd (i : Nat) (p : Plan)
  | acth (i : Nat) (p : Plan)
def Plan.idxs : Plan → List Nat
  | .act i _ alt => i :: alt.idxs
  | _ => []
def readyM (m : List Nat) (d i : Nat) : Bool := (m.getD i 0 ||| d) == d && !d.testBit i
def edgesOK (l : List Oper) : Bool := l.zipIdx.all fun x => x.1.after.toList.all fun e => !Region.binds .any e || decide (e.on < x.2)
def overOK (l : List Oper) (m : List Nat) : Bool := (List.range l.length).all fun j => (List.range j).all fun i => !overlap l i j || (m.getD j 0).testBit i
def compOK (l : List Oper) (m : List Nat) (i : Nat) : Bool := (List.range l.length).all fun e => !effAt l e || (m.getD i 0).testBit e || (m.getD e 0).testBit i
/-- mode true: a plan; false: the other choices of those that act. -/
def planOK (l : List Oper) (m : List Nat) : Bool → Nat → Plan → Bool
  | true, d, .fin => (List.range l.length).all fun i => d.testBit i
  | true, d, .look i f p => decide (i < l.length) && !effAt l i && readyM m d i && (!f || compOK l m i) && planOK l m true (d ||| 2 ^ i) p
  | true, d, .act i p alt => ((List.range l.length).all fun k => !readyM m d k || (effAt l k && (i :: alt.idxs).contains k)) && decide (i < l.length) && effAt l i && readyM m d i && planOK l m true (d ||| 2 ^ i) p && planOK l m false d alt
  | true, d, .actd i p => ((List.range l.length).all fun k => !readyM m d k || (effAt l k && k == i)) && decide (i < l.length) && effAt l i && readyM m d i && ((List.range l.length).all fun k => !d.testBit k || effAt l k || (m.getD i 0).testBit k || compOK l m k) && planOK l m true (d ||| 2 ^ i) p
  | true, d, .acth i p => ((List.range l.length).all fun k => !readyM m d k || (effAt l k && k == i)) && decide (i < l.length) && effAt l i && readyM m d i && ((List.range l.length).all fun k => !d.testBit k || effAt l k || (m.getD i 0).testBit k || compOK l m k) && planOK l m true (d ||| 2 ^ i) p
  | false, _, .non => true
  | false, d, .act i p alt => decide (i < l.length) && effAt l i && readyM m d i && planOK l m true (d ||| 2 ^ i) p && planOK l m false d alt
  | _, _, _ => false
def drawOK (l : List Oper) (p : Plan) : Bool := edgesOK l && overOK l (masks l) && planOK l (masks l) true 0 p

/-! ### The condition -/
def heldOK (hl : List (Addr × Value)) (H : Heap) : Prop := ∀ a v, lookA hl a = some v → cellH H a = some v
theorem heldOK_of {hl : List (Addr × Value)} {H : Heap} (h : heldOK hl H) : (held hl).of H := ⟨h, fun H' hh => by simp [held] at hh⟩
def opGF (P : Program) (n : Nat) (hl : List (Addr × Value)) (l : List Oper) (o : Oper) (ρ : En) (K : En → Prop) : Prop :=
  match o.guard with
  | none => someW (opQ P (held hl) ρ.ev o.op) fun v => K (ρ.put n o.dst v)
  | some (j, want) => guardW (slotOf l.toArray ρ j) want (someW (opQ P (held hl) ρ.ev o.op) fun v => K (ρ.put n o.dst v)) (K (ρ.put n o.dst undef))
def drawW (n : Nat) (P : Program) (l : List Oper) (hl : List (Addr × Value)) (Q : Exit → En → Heap → Prop) (p : Plan) (ρ : En) (H : Heap) : Prop := match p with
  | .fin => Q .normal ρ H
  | .non => True
  | .actd i p => match l[i]? with
    | none => False
    | some o => opG n P l.toArray o ρ H (drawW n P l [] Q p) Q
  | .acth i p => match l[i]? with
    | none => False
    | some o => opG n P l.toArray o ρ H (fun ρ' H' => ∃ hl', heldOK hl' H' ∧ drawW n P l hl' Q p ρ' H') Q
  | .look i f p => match l[i]? with
    | none => False
    | some o => if f then opG n P l.toArray o ρ H (drawW n P l hl Q p) Q else opGF P n hl l o ρ fun ρ' => drawW n P l hl Q p ρ' H
  | .act i p alt => (match l[i]? with
    | none => False
    | some o => opG n P l.toArray o ρ H (fun ρ' H' => heldOK hl H' ∧ drawW n P l hl Q p ρ' H') Q) ∧ drawW n P l hl Q alt ρ H

/-! ### Environments of sets -/
def evalQ (P : Program) (V : HV) (l : List Oper) (o : Oper) (ρ : En) : Option Value :=
  match o.guard with
  | none => opQ P V ρ.ev o.op
  | some (j, want) => if yieldV (slotOf l.toArray ρ j) = some want then opQ P V ρ.ev o.op else some undef
theorem slotOf_congr {l : List Oper} {ρ ρ' : En} {j : Nat} (h : ∀ t ∈ (dstOf l j).toList, ρ.get t = ρ'.get t) : slotOf l.toArray ρ j = slotOf l.toArray ρ' j := by
  unfold slotOf
  simp only [List.getElem?_toArray]
  unfold dstOf at h
  cases hd : (l[j]?).bind (·.dst) with
  | none => rfl
  | some d => rw [hd] at h; exact h d (by simp)
theorem ev_congr {ρ ρ' : En} {xs : List Operand} (h : ∀ t ∈ tmpsL xs, ρ.get t = ρ'.get t) : ∀ x ∈ xs, ρ.ev x = ρ'.ev x := by
  intro x hx
  cases x with
  | tmp t => exact h t (mem_tmpsL hx)
  | _ => rfl
theorem touch_mem {l : List Oper} {i : Nat} {o : Oper} (ho : l[i]? = some o) {ρ ρ' : En} (h : ∀ t ∈ touch l i, ρ.get t = ρ'.get t) :
    (∀ x ∈ o.op.operands.toList, ρ.ev x = ρ'.ev x) ∧ ∀ j want, o.guard = some (j, want) → slotOf l.toArray ρ j = slotOf l.toArray ρ' j := by
  unfold touch at h
  rw [ho] at h
  refine ⟨ev_congr fun t ht => h t (by simp [ht]), fun j want hg => slotOf_congr fun t ht => h t ?_⟩
  simp only [hg, List.mem_append]
  exact .inr ht
theorem evalQ_congr {P : Program} {V : HV} {l : List Oper} {i : Nat} {o : Oper} (ho : l[i]? = some o) {ρ ρ' : En} (h : ∀ t ∈ touch l i, ρ.get t = ρ'.get t) : evalQ P V l o ρ = evalQ P V l o ρ' := by
  obtain ⟨h1, h2⟩ := touch_mem ho h
  unfold evalQ
  cases hg : o.guard with
  | none => exact opQ_congr h1
  | some g =>
    obtain ⟨j, want⟩ := g
    simp only
    rw [h2 j want hg, opQ_congr h1]

/-- The environment when the operations of a set have been carried out, up to number k. -/
noncomputable def ES (n : Nat) (l : List Oper) (vals : Nat → Value) (ρ0 : En) (S : Nat → Prop) : Nat → En
  | 0 => ρ0
  | k + 1 => open Classical in if S k then (ES n l vals ρ0 S k).put n (dstOf l k) (vals k) else ES n l vals ρ0 S k

theorem put_get {n : Nat} {ρ : En} {d : Option Nat} {v : Value} {t : Nat} : (ρ.put n d v).get t = if d = some t ∧ t < n then v else ρ.get t := by
  cases d with
  | none => simp [En.put]
  | some d =>
    simp only [En.put, Option.some.injEq]
    by_cases e : t = d
    · subst e; simp
    · have e' : ¬ d = t := fun x => e x.symm
      simp [e, e']
theorem ES_succ {n : Nat} {l : List Oper} {vals : Nat → Value} {ρ0 : En} {S : Nat → Prop} {k : Nat} :
    ES n l vals ρ0 S (k + 1) = open Classical in if S k then (ES n l vals ρ0 S k).put n (dstOf l k) (vals k) else ES n l vals ρ0 S k := rfl
theorem ES_ds {n : Nat} {l : List Oper} {vals : Nat → Value} {ρ0 : En} {S : Nat → Prop} : ∀ k, (ES n l vals ρ0 S k).ds = ρ0.ds
  | 0 => rfl
  | k + 1 => by
    rw [ES_succ]
    split
    · rw [ds_put]; exact ES_ds k
    · exact ES_ds k

/-- Up to the operation i, and from it on, only the writers before i count. -/
theorem ES_fits {n : Nat} {l : List Oper} {vals vals' : Nat → Value} {ρ0 : En} {S S' : Nat → Prop} {i t : Nat}
    (h : ∀ k, dstOf l k = some t → k ≠ i → (k < i ↔ S k)) (h' : ∀ k, dstOf l k = some t → k ≠ i → (k < i ↔ S' k)) (hi : ¬ S i) (hi' : ¬ S' i)
    (hv : ∀ k, dstOf l k = some t → k < i → vals k = vals' k) : ∀ k, (ES n l vals ρ0 S k).get t = (ES n l vals' ρ0 S' k).get t := by
  intro k
  induction k with
  | zero => rfl
  | succ k ih =>
    by_cases hd : dstOf l k = some t
    · by_cases hki : k = i
      · subst hki
        simp only [ES, hi, hi', if_false]
        exact ih
      · have e1 := h k hd hki
        have e2 := h' k hd hki
        by_cases hlt : k < i
        · simp only [ES, e1.1 hlt, e2.1 hlt, if_true]
          rw [put_get, put_get, hv k hd hlt, ih]
        · have n1 : ¬ S k := fun x => hlt (e1.2 x)
          have n2 : ¬ S' k := fun x => hlt (e2.2 x)
          simp only [ES, n1, n2, if_false]
          exact ih
    · have s1 : (ES n l vals ρ0 S (k + 1)).get t = (ES n l vals ρ0 S k).get t := by
        rw [ES_succ]; split
        · rw [put_get, if_neg (fun x => hd x.1)]
        · rfl
      have s2 : (ES n l vals' ρ0 S' (k + 1)).get t = (ES n l vals' ρ0 S' k).get t := by
        rw [ES_succ]; split
        · rw [put_get, if_neg (fun x => hd x.1)]
        · rfl
      rw [s1, s2, ih]

/-- One operation more. -/
theorem ES_add {n : Nat} {l : List Oper} {vals vals' : Nat → Value} {ρ0 : En} {S S' : Nat → Prop} {i : Nat}
    (hS : ∀ k, S' k ↔ S k ∨ k = i) (hi : ¬ S i) (hv : ∀ k, S k → vals' k = vals k)
    (hd : ∀ t k, dstOf l i = some t → dstOf l k = some t → k ≠ i → (k < i ↔ S k)) : ∀ (k : Nat), i < k → ∀ t, (ES n l vals' ρ0 S' k).get t = ((ES n l vals ρ0 S k).put n (dstOf l i) (vals' i)).get t := by
  have below : ∀ k, k ≤ i → ∀ t, (ES n l vals' ρ0 S' k).get t = (ES n l vals ρ0 S k).get t := by
    intro k
    induction k with
    | zero => intro _ t; rfl
    | succ k ih =>
      intro hk t
      have hki : k ≠ i := by omega
      by_cases hsk : S k
      · have : S' k := (hS k).2 (.inl hsk)
        simp only [ES, hsk, this, if_true]
        rw [put_get, put_get, hv k hsk, ih (by omega)]
      · have : ¬ S' k := fun x => ((hS k).1 x).elim hsk hki
        simp only [ES, hsk, this, if_false]
        exact ih (by omega) t
  intro k
  induction k with
  | zero => intro h; omega
  | succ k ih =>
    intro hk t
    by_cases hki : k = i
    · subst hki
      have : S' k := (hS k).2 (.inr rfl)
      simp only [ES, hi, this, if_true, if_false]
      rw [put_get, put_get, below k (by omega)]
    · have hik : i < k := by omega
      by_cases hsk : S k
      · have : S' k := (hS k).2 (.inl hsk)
        simp only [ES, hsk, this, if_true]
        rw [put_get, put_get, put_get, hv k hsk, ih hik, put_get]
        by_cases hdk : dstOf l k = some t
        · by_cases hdi : dstOf l i = some t
          · have := (hd t k hdi hdk hki).2 hsk
            omega
          · simp [hdi]
        · simp [hdk]
      · have : ¬ S' k := fun x => ((hS k).1 x).elim hsk hki
        simp only [ES, hsk, this, if_false]
        exact ih hik t

theorem En_ext {ρ ρ' : En} (h : ∀ t, ρ.get t = ρ'.get t) (hd : ρ.ds = ρ'.ds) : ρ = ρ' := by
  cases ρ; cases ρ'; simp only [En.mk.injEq]; exact ⟨funext h, hd⟩


/-! ### Soundness -/
theorem evalQ_sound {n : Nat} {P : Program} {V : HV} {l : List Oper} {i : Nat} {o : Oper} {ρ : En} {a : Act} {w : World} {v : Value} {K : Act → World → Prop} {Q : Exit → Act → World → Prop}
    (ho : l[i]? = some o) (ha : Ag n a ρ) (hV : V.of w.heap) (hv : evalQ P V l o ρ = some v) (hk : K (a.put o.dst v) w) : wpOp P l.toArray Q i K a w := by
  unfold wpOp
  simp only [List.getElem?_toArray, ho]
  have run : opQ P V ρ.ev o.op = some v → o.wp P a w K Q := by
    intro h
    unfold Oper.wp
    rw [ha.ev, qrun_sound P _ w _ (opQ_sound hV h)]
    exact hk
  unfold evalQ at hv
  unfold Region.wanted
  cases hg : o.guard with
  | none => rw [hg] at hv; simp only [if_true]; exact .inl (run hv)
  | some g =>
    obtain ⟨j, want⟩ := g
    rw [hg] at hv
    simp only [yield_eq ha]
    simp only at hv
    split at hv
    · rename_i hy
      rw [if_pos (by rw [hy]; simp)]
      exact .inl (run hv)
    · rename_i hy
      rw [if_neg (by simpa using hy)]
      simp only [Option.some.injEq] at hv
      rw [hv]; exact hk

theorem evalQ_of_G {n : Nat} {P : Program} {l : List Oper} {o : Oper} {ρ : En} {H : Heap} {K : En → Heap → Prop} {Q : Exit → En → Heap → Prop} (hq : isQ o.op = true)
    (h : opG n P l.toArray o ρ H K Q) : ∃ v, evalQ P (full H) l o ρ = some v ∧ K (ρ.put n o.dst v) H := by
  have q : opV n P o ρ H K Q → ∃ v, opQ P (full H) ρ.ev o.op = some v ∧ K (ρ.put n o.dst v) H := by
    intro hv
    have e : opV n P o ρ H K Q = someW (opQ P (full H) ρ.ev o.op) fun v => K (ρ.put n o.dst v) H := by
      obtain ⟨dst, op, type, pos, after, guard⟩ := o
      cases op with
      | call c =>
        obtain ⟨callee, args, ats⟩ := c
        cases callee with
        | value f => simp [isQ] at hq
        | invoke r m => simp [isQ] at hq
        | builtin b => cases b <;> first | rfl | (simp [isQ] at hq; done)
      | _ => first | rfl | (simp [isQ] at hq; done)
    rw [e, someW_iff] at hv
    exact hv
  unfold opG at h
  unfold evalQ
  cases hg : o.guard with
  | none => rw [hg] at h; exact q h
  | some g =>
    obtain ⟨j, want⟩ := g
    rw [hg] at h
    simp only [guardW] at h
    simp only
    generalize slotOf l.toArray ρ j = v at h
    cases v with
    | bool b =>
      by_cases hb : b = want
      · rw [if_pos (by simp [yieldV, hb])]; exact q (h.1 hb)
      · rw [if_neg (by simp [yieldV, hb])]
        exact ⟨undef, rfl, h.2 (by cases b <;> cases want <;> simp_all)⟩
    | _ => rw [if_neg (by simp [yieldV])]; exact ⟨undef, rfl, h⟩

theorem evalQ_of_GF {n : Nat} {P : Program} {l : List Oper} {o : Oper} {ρ : En} {hl : List (Addr × Value)} {K : En → Prop}
    (h : opGF P n hl l o ρ K) : ∃ v, evalQ P (held hl) l o ρ = some v ∧ K (ρ.put n o.dst v) := by
  unfold opGF at h
  unfold evalQ
  cases hg : o.guard with
  | none => rw [hg] at h; exact someW_iff.1 h
  | some g =>
    obtain ⟨j, want⟩ := g
    rw [hg] at h
    simp only [guardW] at h
    simp only
    generalize slotOf l.toArray ρ j = v at h
    cases v with
    | bool b =>
      by_cases hb : b = want
      · rw [if_pos (by simp [yieldV, hb])]; exact someW_iff.1 (h.1 hb)
      · rw [if_neg (by simp [yieldV, hb])]
        exact ⟨undef, rfl, h.2 (by cases b <;> cases want <;> simp_all)⟩
    | _ => rw [if_neg (by simp [yieldV])]; exact ⟨undef, rfl, h⟩

theorem opG_trans {n : Nat} {P : Program} {l : List Oper} {i : Nat} {o : Oper} (ho : l[i]? = some o) {ρ ρ' : En} {H : Heap} {K K' : En → Heap → Prop} {Q Q' : Exit → En → Heap → Prop} (hq : isQ o.op = false)
    (h : ∀ t ∈ touch l i, ρ.get t = ρ'.get t) (hk : ∀ v H', K (ρ.put n o.dst v) H' → K' (ρ'.put n o.dst v) H') (hp : ∀ c H', Q (.panic c) ρ H' → Q' (.panic c) ρ' H')
    (hv : opG n P l.toArray o ρ H K Q) : opG n P l.toArray o ρ' H K' Q' := by
  obtain ⟨h1, h2⟩ := touch_mem ho h
  unfold opG at hv ⊢
  cases hg : o.guard with
  | none => rw [hg] at hv; exact opV_trans hq h1 hk hp hv
  | some g =>
    obtain ⟨j, want⟩ := g
    rw [hg] at hv
    simp only at hv ⊢
    rw [← h2 j want hg]
    unfold guardW at hv ⊢
    split at hv
    · exact ⟨fun e => opV_trans hq h1 hk hp (hv.1 e), fun e => hk _ _ (hv.2 e)⟩
    · exact hk _ _ hv

/-- What a panic leaves behind does not hang on the slots. -/
def PanOK (Q : Exit → En → Heap → Prop) : Prop := ∀ c ρ ρ' H, ρ.ds = ρ'.ds → Q (.panic c) ρ H → Q (.panic c) ρ' H
theorem PanOK.seq {K : En → Heap → Prop} {Q : Exit → En → Heap → Prop} (h : PanOK Q) : PanOK (seqQ K Q) := h
theorem PanOK.blk {id : Nat} {Q : Exit → En → Heap → Prop} (h : PanOK Q) : PanOK (blkQ id Q) := h
theorem PanOK.ret {P : Program} {rs : List ResultVar} {R : Value → Heap → Prop} {E : List PanicEntry → Heap → Prop} : PanOK (retQ P rs R E) := fun _ _ _ _ hd h => ⟨hd ▸ h.1, h.2⟩

section
variable {l : List Oper}
theorem overlap_of {i k t : Nat} (ht : t ∈ touch l i) (hk : dstOf l k = some t) : overlap l i k = true ∧ overlap l k i = true := by
  unfold overlap
  simp only [hk, Bool.or_eq_true, List.contains_iff_mem]
  exact ⟨.inr (by simpa using ht), .inl (by simpa using ht)⟩
theorem dstOf_lt {k t : Nat} (h : dstOf l k = some t) : k < l.length := by
  unfold dstOf at h
  cases hl : l[k]? with
  | none => simp [hl] at h
  | some o => exact (List.getElem?_eq_some_iff.1 hl).1
theorem dst_touch {i t : Nat} (h : dstOf l i = some t) : t ∈ touch l i := by
  unfold dstOf at h
  unfold touch
  cases hl : l[i]? with
  | none => simp [hl] at h
  | some o => simp only [hl, Option.bind_some] at h; simp [h]
theorem overOK_at (h : overOK l (masks l) = true) {i j : Nat} (hij : i < j) (hj : j < l.length) (ho : overlap l i j = true) : ((masks l).getD j 0).testBit i = true := by
  unfold overOK at h
  rw [List.all_eq_true] at h
  have h1 := h j (by simpa using hj)
  rw [List.all_eq_true] at h1
  have h2 := h1 i (by simpa using hij)
  rw [ho] at h2
  simpa using h2
end

/-- An operation that may run next meets just the writers before it. -/
theorem fits_S {l : List Oper} (hv : overOK l (masks l) = true) {S : Nat → Prop} (hc : Closed l S) {i : Nat} (hr : Ready l S i) (hi : ¬ S i)
    {t : Nat} (ht : t ∈ touch l i) : ∀ k, dstOf l k = some t → k ≠ i → (k < i ↔ S k) := by
  intro k hk hne
  obtain ⟨o1, o2⟩ := overlap_of ht hk
  have hil : i < l.length := by obtain ⟨o, ho, _⟩ := hr; exact (List.getElem?_eq_some_iff.1 ho).1
  have hkl := dstOf_lt hk
  by_cases hlt : k < i
  · exact ⟨fun _ => masks_spec hc (overOK_at hv hlt hil o2) hr, fun _ => hlt⟩
  · refine ⟨fun h => absurd h hlt, fun hs => absurd ?_ hi⟩
    exact masks_spec hc (overOK_at hv (by omega) hkl o1) ⟨l[k], by simp [hkl], fun e he hb => hc k l[k] (by simp [hkl]) hs e he hb⟩

theorem maskOf_sub {acc : List Nat} {d : Nat} : ∀ (es : List Edge), maskOf acc es ||| d = d → ∀ e ∈ es, Region.binds .any e = true → d.testBit e.on = true := by
  intro es
  induction es with
  | nil => intro _ e he; simp at he
  | cons x es ih =>
    intro h e he hb
    have bit : ∀ i, (maskOf acc (x :: es)).testBit i = true → d.testBit i = true := by
      intro i hi
      rw [← h, Nat.testBit_or, hi]; rfl
    unfold maskOf at bit
    simp only [List.foldr_cons] at bit
    rcases List.mem_cons.1 he with rfl | he
    · apply bit
      rw [if_pos hb, Nat.testBit_or, Nat.testBit_or, Nat.testBit_two_pow]
      simp
    · refine ih ?_ e he hb
      apply Nat.eq_of_testBit_eq
      intro i
      rw [Nat.testBit_or]
      cases hm : (maskOf acc es).testBit i with
      | false => simp
      | true =>
        have : d.testBit i = true := by
          apply bit
          split
          · rw [Nat.testBit_or, Nat.testBit_or]
            have : (es.foldr (fun e s => if Region.binds .any e then s ||| 2 ^ e.on ||| acc.getD e.on 0 else s) 0).testBit i = true := hm
            rw [this]; simp
          · exact hm
        simp [this]
theorem masksGo_at : ∀ (r : List Oper) (acc : List Nat) (j : Nat) (o : Oper), r[j]? = some o → ∃ acc', (masksGo r acc).getD (acc.length + j) 0 = maskOf acc' o.after.toList := by
  have keep : ∀ (r : List Oper) (acc : List Nat) (k : Nat), k < acc.length → (masksGo r acc).getD k 0 = acc.getD k 0 := by
    intro r
    induction r with
    | nil => intro acc k _; rfl
    | cons o r ih =>
      intro acc k hk
      rw [masksGo, ih _ _ (by simp; omega), List.getD_eq_getElem?_getD, List.getElem?_append_left hk, List.getD_eq_getElem?_getD]
  intro r
  induction r with
  | nil => intro acc j o h; simp at h
  | cons x r ih =>
    intro acc j o h
    cases j with
    | zero =>
      simp only [List.getElem?_cons_zero, Option.some.injEq] at h
      subst h
      refine ⟨acc, ?_⟩
      rw [masksGo, keep _ _ _ (by simp), List.getD_eq_getElem?_getD, List.getElem?_append_right (by simp)]
      simp
    | succ j =>
      simp only [List.getElem?_cons_succ] at h
      obtain ⟨acc', h'⟩ := ih (acc ++ [maskOf acc x.after.toList]) j o h
      refine ⟨acc', ?_⟩
      rw [masksGo]
      simp only [List.length_append, List.length_cons, List.length_nil] at h'
      rw [← h']
      congr 1
      omega
theorem ready_of_mask {l : List Oper} {d i : Nat} (h : readyM (masks l) d i = true) (hi : i < l.length) : Ready l (fun k => d.testBit k = true) i ∧ ¬ d.testBit i = true := by
  unfold readyM at h
  simp only [Bool.and_eq_true, Bool.not_eq_true', beq_iff_eq] at h
  refine ⟨⟨l[i], by simp [hi], ?_⟩, by simp [h.2]⟩
  obtain ⟨acc', ha⟩ := masksGo_at l [] i l[i] (by simp [hi])
  simp only [List.length_nil, Nat.zero_add] at ha
  have h1 := h.1
  unfold masks at h1
  rw [ha] at h1
  exact fun e he hb => maskOf_sub _ h1 e he hb
theorem mask_of_ready {l : List Oper} {S : Nat → Prop} {d i : Nat} (hc : Closed l S) (hr : Ready l S i) (hs : ∀ k, S k → d.testBit k = true) (hi : ¬ d.testBit i = true) : readyM (masks l) d i = true := by
  unfold readyM
  simp only [Bool.and_eq_true, Bool.not_eq_true', beq_iff_eq]
  refine ⟨?_, by simpa using hi⟩
  apply Nat.eq_of_testBit_eq
  intro k
  rw [Nat.testBit_or]
  cases hm : ((masks l).getD i 0).testBit k with
  | false => simp
  | true => simp [hs k (masks_spec hc hm hr)]
theorem bit_or {d i k : Nat} : (d ||| 2 ^ i).testBit k = true ↔ (d.testBit k = true ∨ k = i) := by
  rw [Nat.testBit_or, Nat.testBit_two_pow]
  simp only [Bool.or_eq_true, decide_eq_true_eq]
  constructor
  · rintro (h | h)
    · exact .inl h
    · exact .inr h.symm
  · rintro (h | h)
    · exact .inl h
    · exact .inr h.symm
theorem closed_add {l : List Oper} {d i : Nat} (hc : Closed l (fun k => d.testBit k = true)) (hr : Ready l (fun k => d.testBit k = true) i) : Closed l (fun k => (d ||| 2 ^ i).testBit k = true) := by
  intro j o hj hs e he hb
  rcases bit_or.1 hs with hs | rfl
  · exact bit_or.2 (.inl (hc j o hj hs e he hb))
  · obtain ⟨o', ho', hall⟩ := hr
    rw [hj] at ho'
    simp only [Option.some.injEq] at ho'
    subst ho'
    exact bit_or.2 (.inl (hall e he hb))

theorem ES_vals {n : Nat} {l : List Oper} {vals vals' : Nat → Value} {ρ0 : En} {S S' : Nat → Prop} (hS : ∀ k, S k ↔ S' k) (hv : ∀ k, S k → vals k = vals' k) : ∀ k, ES n l vals ρ0 S k = ES n l vals' ρ0 S' k := by
  intro k
  induction k with
  | zero => rfl
  | succ k ih =>
    rw [ES_succ, ES_succ, ih]
    by_cases h : S k
    · rw [if_pos h, if_pos ((hS k).1 h), hv k h]
    · rw [if_neg h, if_neg (fun x => h ((hS k).2 x))]

section
variable {n : Nat} {P : Program} {l : List Oper} {hl : List (Addr × Value)} {Q : Exit → En → Heap → Prop} {ρ0 : En}

/-- The state of the plan beside a state of the drawn order. d: what the plan has carried out; fl: how it looked. -/
structure DSt (n : Nat) (P : Program) (l : List Oper) (hl : List (Addr × Value)) (Q : Exit → En → Heap → Prop) (ρ0 : En) (S : Nat → Prop) (ρ : En) (H : Heap)
    (vals : Nat → Value) (fl : Nat → Bool) (d : Nat) (p : Plan) : Prop where
  ok : planOK l (masks l) true d p = true
  closed : Closed l (fun k => d.testBit k = true)
  env : ∀ t, ρ.get t = (ES n l vals ρ0 S l.length).get t
  sub : ∀ k, S k → d.testBit k = true
  eff : ∀ k, d.testBit k = true → effAt l k = true → S k
  pend : ∀ k, d.testBit k = true → ¬ S k → ∃ o ρi, l[k]? = some o ∧ isQ o.op = true ∧ (fl k = true → compOK l (masks l) k = true) ∧
    evalQ P (if fl k then full H else held hl) l o ρi = some (vals k) ∧ ∀ t ∈ touch l k, ρi.get t = (ES n l vals ρ0 (· < k) l.length).get t
  cont : drawW n P l hl Q p (ES n l vals ρ0 (fun k => d.testBit k = true) l.length) H

theorem pend_keep (hv : overOK l (masks l) = true) {d i k : Nat} {vals vals' : Nat → Value} (hc : Closed l (fun k => d.testBit k = true)) (hk : d.testBit k = true) (hkl : k < l.length) (hi : ¬ d.testBit i = true)
    (hvals : ∀ j, j ≠ i → vals j = vals' j) {t : Nat} (ht : t ∈ touch l k) : (ES n l vals ρ0 (· < k) l.length).get t = (ES n l vals' ρ0 (· < k) l.length).get t := by
  refine ES_fits (i := k) (fun _ _ _ => Iff.rfl) (fun _ _ _ => Iff.rfl) (by simp) (by simp) (fun j hj hlt => ?_) _
  by_cases e : j = i
  · exfalso
    subst e
    have hm := overOK_at hv hlt hkl (overlap_of ht hj).2
    exact hi (masks_spec hc hm ⟨l[k], by simp [hkl], fun e he hb => hc k l[k] (by simp [hkl]) hk e he hb⟩)
  · exact hvals j e

theorem env_add (hv : overOK l (masks l) = true) {d i : Nat} {vals : Nat → Value} {v : Value} {o : Oper} (ho : l[i]? = some o) (hc : Closed l (fun k => d.testBit k = true)) (hr : Ready l (fun k => d.testBit k = true) i) (hi : ¬ d.testBit i = true) :
    ES n l (fun k => if k = i then v else vals k) ρ0 (fun k => (d ||| 2 ^ i).testBit k = true) l.length = (ES n l vals ρ0 (fun k => d.testBit k = true) l.length).put n o.dst v := by
  have hil : i < l.length := (List.getElem?_eq_some_iff.1 ho).1
  have hdst : dstOf l i = o.dst := by unfold dstOf; rw [ho]; rfl
  refine En_ext (fun t => ?_) (by rw [ES_ds, ds_put, ES_ds])
  have := ES_add (n := n) (l := l) (vals := vals) (vals' := fun k => if k = i then v else vals k) (ρ0 := ρ0) (S := fun k => d.testBit k = true) (S' := fun k => (d ||| 2 ^ i).testBit k = true) (i := i)
    (fun k => bit_or) hi (fun k hs => if_neg (fun e => hi (by rw [← e]; exact hs))) (fun t k hd hk hne => fits_S hv hc hr hi (dst_touch hd) k hk hne) l.length hil t
  rw [this, hdst]
  simp

theorem advance (hv : overOK l (masks l) = true) {S : Nat → Prop} {ρ : En} {H : Heap} : ∀ (p : Plan) (d : Nat) (fl : Nat → Bool) (vals : Nat → Value),
    DSt n P l hl Q ρ0 S ρ H vals fl d p → ∃ vals' fl' d' p', DSt n P l hl Q ρ0 S ρ H vals' fl' d' p' ∧ ∀ i f q, p' ≠ .look i f q := by
  intro p
  induction p with
  | fin => intro d fl vals h; exact ⟨vals, fl, d, .fin, h, fun _ _ _ e => by simp at e⟩
  | non => intro d fl vals h; exact ⟨vals, fl, d, .non, h, fun _ _ _ e => by simp at e⟩
  | act i p alt _ _ => intro d fl vals h; exact ⟨vals, fl, d, .act i p alt, h, fun _ _ _ e => by simp at e⟩
  | actd i p _ => intro d fl vals h; exact ⟨vals, fl, d, .actd i p, h, fun _ _ _ e => by simp at e⟩
  | acth i p _ => intro d fl vals h; exact ⟨vals, fl, d, .acth i p, h, fun _ _ _ e => by simp at e⟩
  | look i f p ih =>
    intro d fl vals h
    have hok := h.ok
    simp only [planOK, Bool.and_eq_true, decide_eq_true_eq, Bool.not_eq_true', Bool.or_eq_true] at hok
    obtain ⟨⟨⟨⟨hil, heff⟩, hrm⟩, hcomp⟩, hok'⟩ := hok
    obtain ⟨hr, hi⟩ := ready_of_mask hrm hil
    have hc := h.cont
    unfold drawW at hc
    have ho : l[i]? = some l[i] := by simp [hil]
    generalize l[i] = o at ho
    rw [ho] at hc
    have hq : isQ o.op = true := by
      unfold effAt at heff
      rw [ho] at heff
      simpa using heff
    have hns : ¬ S i := fun hs => hi (h.sub _ hs)
    have key : ∃ v, evalQ P (if f then full H else held hl) l o (ES n l vals ρ0 (fun k => d.testBit k = true) l.length) = some v ∧ drawW n P l hl Q p ((ES n l vals ρ0 (fun k => d.testBit k = true) l.length).put n o.dst v) H := by
      simp only at hc
      split at hc
      · rename_i hf; rw [if_pos hf]; exact evalQ_of_G hq hc
      · rename_i hf; rw [if_neg hf]; exact evalQ_of_GF hc
    obtain ⟨v, hev, hk⟩ := key
    refine ih (d ||| 2 ^ i) (fun k => if k = i then f else fl k) (fun k => if k = i then v else vals k) ?_
    refine { ok := hok', closed := closed_add h.closed hr, env := ?_, sub := fun k hs => bit_or.2 (.inl (h.sub k hs)), eff := ?_, pend := ?_, cont := ?_ }
    · intro t
      rw [h.env t, ES_vals (S' := S) (vals' := fun k => if k = i then v else vals k) (fun _ => Iff.rfl) (fun k hs => by have hne : k ≠ i := (fun e => hns (by rw [← e]; exact hs)); rw [if_neg hne])]
    · intro k hk' he
      rcases bit_or.1 hk' with hk' | rfl
      · exact h.eff k hk' he
      · rw [heff] at he; simp at he
    · intro k hk' hnk
      rcases bit_or.1 hk' with hk' | rfl
      · obtain ⟨o', ρi, h1, h2, h2', h3, h4⟩ := h.pend k hk' hnk
        have hki : k ≠ i := fun e => hi (by rw [← e]; exact hk')
        refine ⟨o', ρi, h1, h2, by rw [if_neg hki]; exact h2', by rw [if_neg hki, if_neg hki]; exact h3, fun t ht => ?_⟩
        rw [h4 t ht]
        exact pend_keep hv h.closed hk' (List.getElem?_eq_some_iff.1 h1).1 hi (fun j hj => by rw [if_neg hj]) ht
      · refine ⟨o, ES n l vals ρ0 (fun k => d.testBit k = true) l.length, ho, hq, ?_, by rw [if_pos rfl, if_pos rfl]; exact hev, fun t ht => ?_⟩
        · rw [if_pos rfl]
          intro hf
          rcases hcomp with hcomp | hcomp
          · rw [hf] at hcomp; simp at hcomp
          · exact hcomp
        · refine ES_fits (i := k) (fits_S hv h.closed hr hi ht) (fun j _ _ => Iff.rfl) hi (by simp) (fun j _ hlt => ?_) _
          rw [if_neg (by omega)]
    · rw [env_add hv ho h.closed hr hi]
      exact hk

theorem countP_lt {p p' : Nat → Bool} {i : Nat} (hi : p i = true) (hi' : p' i = false) (h : ∀ k, p' k = true → p k = true) : ∀ {l : List Nat}, i ∈ l → l.countP p' < l.countP p := by
  intro l
  induction l with
  | nil => intro h; simp at h
  | cons x l ih =>
    intro hm
    have mono : l.countP p' ≤ l.countP p := List.countP_mono_left fun k _ hk => h k hk
    rcases List.mem_cons.1 hm with rfl | hm
    · rw [List.countP_cons_of_pos hi, List.countP_cons_of_neg (by simp [hi'])]; omega
    · have := ih hm
      by_cases hx : p' x = true
      · rw [List.countP_cons_of_pos hx, List.countP_cons_of_pos (h x hx)]; omega
      · rw [List.countP_cons_of_neg hx]
        by_cases hx' : p x = true
        · rw [List.countP_cons_of_pos hx']; omega
        · rw [List.countP_cons_of_neg hx']; omega

/-- The choice that is drawn among those that act. -/
theorem act_choice {d i : Nat} : ∀ (p : Plan), i ∈ p.idxs → ∀ ρ H, drawW n P l hl Q p ρ H → (∀ j q alt, p = .act j q alt → decide (j < l.length) = true ∧ effAt l j = true ∧ readyM (masks l) d j = true ∧ planOK l (masks l) true (d ||| 2 ^ j) q = true ∧ planOK l (masks l) false d alt = true) →
    ∃ q o, l[i]? = some o ∧ planOK l (masks l) true (d ||| 2 ^ i) q = true ∧ opG n P l.toArray o ρ H (fun ρ' H' => heldOK hl H' ∧ drawW n P l hl Q q ρ' H') Q := by
  intro p
  induction p with
  | act j q alt _ ih =>
    intro hi ρ H hw hok
    obtain ⟨h1, _, _, h4, h5⟩ := hok j q alt rfl
    unfold drawW at hw
    simp only [Plan.idxs, List.mem_cons] at hi
    by_cases hij : i = j
    · subst hij
      have hil : i < l.length := by simpa using h1
      have ho : l[i]? = some l[i] := by simp [hil]
      refine ⟨q, l[i], ho, h4, ?_⟩
      have := hw.1
      rw [ho] at this
      exact this
    · refine ih (by rcases hi with hi | hi; exact absurd hi hij; exact hi) ρ H hw.2 ?_
      rintro j' q' alt' rfl
      simp only [planOK, Bool.and_eq_true] at h5
      obtain ⟨⟨⟨⟨g1, g2⟩, g3⟩, g4⟩, g5⟩ := h5
      exact ⟨g1, g2, g3, g4, g5⟩
  | _ => intro hi; simp [Plan.idxs] at hi

theorem draw_main (hpan : PanOK Q) (hv : overOK l (masks l) = true) (hedge : edgesOK l = true) {w0 : World} : ∀ (fuel : Nat) (hl : List (Addr × Value)) (listed : Array Bool) (ρ : En) (w : World) (a : Act)
    (vals : Nat → Value) (fl : Nat → Bool) (d : Nat) (p : Plan), listed.size = l.length → (List.range l.length).countP (fun k => !listed.getD k false) ≤ fuel → Rest w0 w → Ag n a ρ → ρ.ds = ρ0.ds → heldOK hl w.heap →
    Closed l (fun k => listed.getD k false = true) → DSt n P l hl Q ρ0 (fun k => listed.getD k false = true) ρ w.heap vals fl d p → (∀ i f q, p ≠ .look i f q) →
    wpAny P .any l.toArray (upQ n w0 Q) fuel listed a w := by
  have ready_of : ∀ (listed : Array Bool) (i : Nat), listed.size = l.length → i ∈ Region.ready .any l.toArray listed → Ready l (fun k => listed.getD k false = true) i ∧ ¬ listed.getD i false = true ∧ i < l.length := by
    intro listed i hs hi
    unfold Region.ready at hi
    simp only [List.size_toArray, List.mem_filter, List.mem_range, List.getElem?_toArray, Bool.and_eq_true, Bool.not_eq_true'] at hi
    obtain ⟨hil, hlist, hafter⟩ := hi
    refine ⟨⟨l[i], by simp [hil], ?_⟩, ?_, hil⟩
    · rw [show l[i]? = some l[i] from by simp [hil]] at hafter
      simp only [Option.map_some, Option.getD_some, Array.all_eq_true] at hafter
      intro e he hb
      obtain ⟨j, hj, hje⟩ := List.getElem_of_mem he
      have := hafter j (by simpa using hj)
      simp only [Array.getElem_toList] at hje
      rw [hje, hb] at this
      simpa using this
    · rw [Array.getD_eq_getD_getElem?] at hlist ⊢
      rw [Array.getElem?_eq_getElem (by omega)] at hlist ⊢
      simp only [Option.getD_some] at hlist ⊢
      simp [hlist]
  have finish : ∀ (hl : List (Addr × Value)) (listed : Array Bool) (ρ : En) (w : World) (a : Act) (vals : Nat → Value) (fl : Nat → Bool) (d : Nat) (p : Plan), listed.size = l.length → Rest w0 w → Ag n a ρ → ρ.ds = ρ0.ds →
      DSt n P l hl Q ρ0 (fun k => listed.getD k false = true) ρ w.heap vals fl d p → (∀ i f q, p ≠ .look i f q) → (∀ k, k < l.length → listed.getD k false = true) → upQ n w0 Q .normal a w := by
    intro hl listed ρ w a vals fl d p hs hr ha hds hst hhead hfull
    have hfin : p = .fin := by
      have hok := hst.ok
      cases p with
      | fin => rfl
      | non => simp [planOK] at hok
      | look i f q => exact absurd rfl (hhead i f q)
      | act i q alt =>
        exfalso
        simp only [planOK, Bool.and_eq_true, decide_eq_true_eq] at hok
        obtain ⟨⟨⟨⟨⟨_, hil⟩, _⟩, hrm⟩, _⟩, _⟩ := hok
        exact (ready_of_mask hrm hil).2 (hst.sub i (hfull i hil))
      | actd i q =>
        exfalso
        simp only [planOK, Bool.and_eq_true, decide_eq_true_eq] at hok
        obtain ⟨⟨⟨⟨⟨_, hil⟩, _⟩, hrm⟩, _⟩, _⟩ := hok
        exact (ready_of_mask hrm hil).2 (hst.sub i (hfull i hil))
      | acth i q =>
        exfalso
        simp only [planOK, Bool.and_eq_true, decide_eq_true_eq] at hok
        obtain ⟨⟨⟨⟨⟨_, hil⟩, _⟩, hrm⟩, _⟩, _⟩ := hok
        exact (ready_of_mask hrm hil).2 (hst.sub i (hfull i hil))
    subst hfin
    have hc := hst.cont
    refine ⟨hr, ρ, ha, ?_⟩
    have e : ρ = ES n l vals ρ0 (fun k => d.testBit k = true) l.length := by
      refine En_ext (fun t => ?_) (by rw [ES_ds]; exact hds)
      rw [hst.env t]
      have eq : ∀ k, k ≤ l.length → (ES n l vals ρ0 (fun k => listed.getD k false = true) k) = ES n l vals ρ0 (fun k => d.testBit k = true) k := by
        intro k
        induction k with
        | zero => intro _; rfl
        | succ k ih =>
          intro hk
          have h1 := hfull k (by omega)
          rw [ES_succ, ES_succ, if_pos h1, if_pos (hst.sub k h1), ih (by omega)]
      rw [eq l.length (Nat.le_refl _)]
    rw [e]
    exact hc
  have stuck0 : ∀ (listed : Array Bool), listed.size = l.length → Region.ready .any l.toArray listed = [] → ∀ k, k < l.length → listed.getD k false = true := by
    intro listed hs hr k
    induction k using Nat.strongRecOn with
    | _ k ih =>
      intro hk
      cases hb : listed.getD k false with
      | true => rfl
      | false =>
        exfalso
        have : k ∈ Region.ready .any l.toArray listed := by
          unfold Region.ready
          simp only [List.size_toArray, List.mem_filter, List.mem_range, List.getElem?_toArray, Bool.and_eq_true, Bool.not_eq_true']
          refine ⟨hk, ?_, ?_⟩
          · rw [Array.getD_eq_getD_getElem?, Array.getElem?_eq_getElem (by omega)] at hb ⊢
            exact hb
          · rw [show l[k]? = some l[k] from by simp [hk]]
            simp only [Option.map_some, Option.getD_some, Array.all_eq_true]
            intro j hj
            cases hbe : Region.binds .any (l[k].after[j]) with
            | false => simp
            | true =>
              simp only [Bool.not_true, Bool.false_or]
              have hed := hedge
              unfold edgesOK at hed
              rw [List.all_eq_true] at hed
              have h1 := hed (l[k], k) (by rw [List.mem_zipIdx_iff_getElem?]; simp [hk])
              rw [List.all_eq_true] at h1
              have h2 := h1 (l[k].after[j]) (by simp)
              rw [hbe] at h2
              have h3 : (l[k].after[j]).on < k := by simpa using h2
              exact ih _ h3 (by omega)
        rw [hr] at this
        simp at this
  intro fuel
  induction fuel with
  | zero =>
    intro hl listed ρ w a vals fl d p hs hcnt hr ha hds hh hc hst hhead
    have hfull : ∀ k, k < l.length → listed.getD k false = true := by
      intro k hk
      have h0 : (List.range l.length).countP (fun k => !listed.getD k false) = 0 := by omega
      rw [List.countP_eq_zero] at h0
      simpa using h0 k (by simpa using hk)
    refine ⟨?_, finish hl listed ρ w a vals fl d p hs hr ha hds hst hhead hfull⟩
    cases hrd : Region.ready .any l.toArray listed with
    | nil => rfl
    | cons i r =>
      exfalso
      obtain ⟨_, h2, h3⟩ := ready_of listed i hs (by rw [hrd]; simp)
      exact h2 (hfull i h3)
  | succ fuel ih =>
    intro hl listed ρ w a vals fl d p hs hcnt hr ha hds hh hc hst hhead
    refine ⟨fun hrd => finish hl listed ρ w a vals fl d p hs hr ha hds hst hhead (stuck0 listed hs hrd), fun i hi => ?_⟩
    obtain ⟨hrdy, hni, hil⟩ := ready_of listed i hs hi
    have hset : ∀ k, (listed.setIfInBounds i true).getD k false = true ↔ (listed.getD k false = true ∨ k = i) := by
      intro k
      rw [Array.getD_eq_getD_getElem?, Array.getElem?_setIfInBounds, Array.getD_eq_getD_getElem?]
      by_cases e : i = k
      · subst e; simp [hs, hil]
      · have e' : ¬ k = i := fun x => e x.symm
        simp [e, e']
    have hcnt' : (List.range l.length).countP (fun k => !(listed.setIfInBounds i true).getD k false) ≤ fuel := by
      have := countP_lt (p := fun k => !listed.getD k false) (p' := fun k => !(listed.setIfInBounds i true).getD k false) (i := i) (by simpa using hni)
        (by have := (hset i).2 (.inr rfl); simp [this]) (fun k hk => by
          cases hb : listed.getD k false with
          | false => rfl
          | true => have := (hset k).2 (.inl hb); simp [this] at hk) (l := List.range l.length) (by simpa using hil)
      omega
    have hc' : Closed l (fun k => (listed.setIfInBounds i true).getD k false = true) := by
      intro j o hj hs' e he hb
      rcases (hset j).1 hs' with hs' | rfl
      · exact (hset _).2 (.inl (hc j o hj hs' e he hb))
      · obtain ⟨o', ho', hall'⟩ := hrdy
        rw [hj] at ho'
        simp only [Option.some.injEq] at ho'
        subst ho'
        exact (hset _).2 (.inl (hall' e he hb))
    have hs' : (listed.setIfInBounds i true).size = l.length := by simpa using hs
    obtain ⟨o, ho, _⟩ := id hrdy
    have hdst : dstOf l i = o.dst := by unfold dstOf; rw [ho]; rfl
    have henv : ∀ (vals' : Nat → Value), (∀ k, k ≠ i → vals' k = vals k) → ∀ t, (ρ.put n o.dst (vals' i)).get t = (ES n l vals' ρ0 (fun k => (listed.setIfInBounds i true).getD k false = true) l.length).get t := by
      intro vals' hvals t
      have := ES_add (n := n) (l := l) (vals := vals) (vals' := vals') (ρ0 := ρ0) (S := fun k => listed.getD k false = true) (S' := fun k => (listed.setIfInBounds i true).getD k false = true) (i := i)
        hset hni (fun k hk => hvals k (fun e => hni (by rw [← e]; exact hk))) (fun t k hd hk hne => fits_S hv hc hrdy hni (dst_touch hd) k hk hne) l.length hil t
      rw [this, hdst, put_get, put_get, hst.env t]
    cases hqi : isQ o.op with
    | true =>
      -- one that only looks: the plan has carried it out already
      have heff : effAt l i = false := by unfold effAt; rw [ho]; simp [hqi]
      have hin : d.testBit i = true := by
        cases hdi : d.testBit i with
        | true => rfl
        | false =>
          exfalso
          have hrm := mask_of_ready hc hrdy hst.sub (d := d) (by simp [hdi])
          have hok := hst.ok
          cases p with
          | fin =>
            simp only [planOK, List.all_eq_true] at hok
            have := hok i (by simpa using hil)
            rw [hdi] at this; simp at this
          | non => simp [planOK] at hok
          | look j f q => exact hhead j f q rfl
          | act j q alt =>
            simp only [planOK, Bool.and_eq_true, List.all_eq_true] at hok
            have := hok.1.1.1.1.1 i (by simpa using hil)
            rw [hrm, heff] at this
            simp at this
          | actd j q =>
            simp only [planOK, Bool.and_eq_true, List.all_eq_true] at hok
            have := hok.1.1.1.1.1 i (by simpa using hil)
            rw [hrm, heff] at this
            simp at this
          | acth j q =>
            simp only [planOK, Bool.and_eq_true, List.all_eq_true] at hok
            have := hok.1.1.1.1.1 i (by simpa using hil)
            rw [hrm, heff] at this
            simp at this
      obtain ⟨o', ρi, h1, _, _, h3, h4⟩ := hst.pend i hin hni
      rw [ho] at h1
      simp only [Option.some.injEq] at h1
      subst h1
      have hag : ∀ t ∈ touch l i, ρi.get t = ρ.get t := by
        intro t ht
        rw [h4 t ht, hst.env t]
        exact (ES_fits (i := i) (fits_S hv hc hrdy hni ht) (fun k _ _ => Iff.rfl) hni (by simp) (fun _ _ _ => rfl) _).symm
      rw [evalQ_congr ho hag] at h3
      refine evalQ_sound (V := if fl i = true then full w.heap else held hl) ho ha (by split; exact full_of _; exact heldOK_of hh) h3 ?_
      refine ih hl (listed.setIfInBounds i true) (ρ.put n o.dst (vals i)) w (a.put o.dst (vals i)) vals fl d p hs' hcnt' hr (ha.put _ _) (by rw [ds_put]; exact hds) hh hc' ?_ hhead
      refine { ok := hst.ok, closed := hst.closed, env := henv vals (fun _ _ => rfl), sub := ?_, eff := fun k hk he => (hset _).2 (.inl (hst.eff k hk he)), pend := fun k hk hnk => hst.pend k hk (fun h => hnk ((hset _).2 (.inl h))), cont := hst.cont }
      intro k hk
      rcases (hset k).1 hk with hk | rfl
      · exact hst.sub k hk
      · exact hin
    | false =>
      have heff : effAt l i = true := by unfold effAt; rw [ho]; simp [hqi]
      have hnin : ¬ d.testBit i = true := fun h => hni (hst.eff i h heff)
      have hrm := mask_of_ready hc hrdy hst.sub hnin
      have hrd := (ready_of_mask hrm hil).1
      have hok := hst.ok
      cases p with
      | fin =>
        exfalso
        simp only [planOK, List.all_eq_true] at hok
        exact hnin (hok i (by simpa using hil))
      | non => simp [planOK] at hok
      | look j f q => exact absurd rfl (hhead j f q)
      | act j q alt =>
        simp only [planOK, Bool.and_eq_true] at hok
        obtain ⟨⟨⟨⟨⟨g0, g1⟩, g2⟩, g3⟩, g4⟩, g5⟩ := hok
        have hmem : i ∈ (Plan.act j q alt).idxs := by
          rw [List.all_eq_true] at g0
          have := g0 i (by simpa using hil)
          rw [hrm, heff] at this
          simpa [Plan.idxs] using this
        obtain ⟨q', o', ho', hokq, hcont⟩ := act_choice (d := d) (.act j q alt) hmem _ _ hst.cont (by
          rintro j' q' alt' he
          simp only [Plan.act.injEq] at he
          obtain ⟨rfl, rfl, rfl⟩ := he
          exact ⟨g1, g2, g3, g4, g5⟩)
        rw [ho] at ho'
        simp only [Option.some.injEq] at ho'
        subst ho'
        have hag : ∀ t ∈ touch l i, (ES n l vals ρ0 (fun k => d.testBit k = true) l.length).get t = ρ.get t := by
          intro t ht
          rw [hst.env t]
          exact ES_fits (i := i) (fits_S hv hst.closed hrd hnin ht) (fits_S hv hc hrdy hni ht) hnin hni (fun _ _ _ => rfl) _
        have hG := opG_trans (K' := fun ρ' H' => ∃ v, ρ' = ρ.put n o.dst v ∧ heldOK hl H' ∧ drawW n P l hl Q q' ((ES n l vals ρ0 (fun k => d.testBit k = true) l.length).put n o.dst v) H') ho hqi hag
          (fun v H' h => ⟨v, rfl, h.1, h.2⟩) (fun c H' h => hpan c _ _ H' (by rw [ES_ds]; exact hds.symm) h) hcont
        have hS := opG_sound hr ha hG
        unfold wpOp
        simp only [List.getElem?_toArray, ho]
        have next : ∀ a' w', up n w0 (fun ρ' H' => ∃ v, ρ' = ρ.put n o.dst v ∧ heldOK hl H' ∧ drawW n P l hl Q q' ((ES n l vals ρ0 (fun k => d.testBit k = true) l.length).put n o.dst v) H') a' w' →
            wpAny P .any l.toArray (upQ n w0 Q) fuel (listed.setIfInBounds i true) a' w' := by
          rintro a' w' ⟨hr', ρ', ha', v, rfl, hh', hk⟩
          have hst' : DSt n P l hl Q ρ0 (fun k => (listed.setIfInBounds i true).getD k false = true) (ρ.put n o.dst v) w'.heap (fun k => if k = i then v else vals k) fl (d ||| 2 ^ i) q' := by
            refine { ok := hokq, closed := closed_add hst.closed hrd, env := ?_, sub := ?_, eff := ?_, pend := ?_, cont := ?_ }
            · have := henv (fun k => if k = i then v else vals k) (fun k hk => if_neg hk)
              simpa using this
            · intro k hk
              rcases (hset k).1 hk with hk | rfl
              · exact bit_or.2 (.inl (hst.sub k hk))
              · exact bit_or.2 (.inr rfl)
            · intro k hk he
              rcases bit_or.1 hk with hk | rfl
              · exact (hset _).2 (.inl (hst.eff k hk he))
              · exact (hset _).2 (.inr rfl)
            · intro k hk hnk
              rcases bit_or.1 hk with hk | rfl
              · have hnk' : ¬ listed.getD k false = true := fun h => hnk ((hset _).2 (.inl h))
                obtain ⟨o', ρi, h1, h2, h2', h3, h4⟩ := hst.pend k hk hnk'
                have hki : k ≠ i := fun e => hnin (by rw [← e]; exact hk)
                have hfl : fl k = false := by
                  cases hb : fl k with
                  | false => rfl
                  | true =>
                    exfalso
                    have hcomp := h2' hb
                    unfold compOK at hcomp
                    rw [List.all_eq_true] at hcomp
                    have h5 := hcomp i (by simpa using hil)
                    rw [heff] at h5
                    simp only [Bool.not_true, Bool.false_or, Bool.or_eq_true] at h5
                    rcases h5 with h5 | h5
                    · have hkl := (List.getElem?_eq_some_iff.1 h1).1
                      exact hnin (masks_spec hst.closed h5 ⟨l[k], by simp [hkl], fun e he hb => hst.closed k l[k] (by simp [hkl]) hk e he hb⟩)
                    · exact hnk' (masks_spec hc h5 hrdy)
                rw [hfl] at h3
                refine ⟨o', ρi, h1, h2, h2', by rw [if_neg hki, hfl]; exact h3, fun t ht => ?_⟩
                rw [h4 t ht]
                exact pend_keep hv hst.closed hk (List.getElem?_eq_some_iff.1 h1).1 hnin (fun j hj => by rw [if_neg hj]) ht
              · exact absurd ((hset _).2 (.inr rfl)) hnk
            · rw [env_add hv ho hst.closed hrd hnin]
              exact hk
          obtain ⟨vals', fl', d', p', hst'', hhead'⟩ := advance hv q' _ _ _ hst'
          exact ih hl (listed.setIfInBounds i true) (ρ.put n o.dst v) w' a' vals' fl' d' p' hs' hcnt' hr' ha' (by rw [ds_put]; exact hds) hh' hc' hst'' hhead'
        split
        · rename_i hw
          rw [if_pos hw] at hS
          exact hS.imp (Oper.wp_mono next) id
        · rename_i hw
          rw [if_neg hw] at hS
          exact next _ _ hS
      | actd j q =>
        simp only [planOK, Bool.and_eq_true] at hok
        obtain ⟨⟨⟨⟨⟨g0, g1⟩, g2⟩, g3⟩, gd⟩, g4⟩ := hok
        have hij : i = j := by
          rw [List.all_eq_true] at g0
          have := g0 i (by simpa using hil)
          rw [hrm, heff] at this
          simpa using this
        subst hij
        have hcont : opG n P l.toArray o (ES n l vals ρ0 (fun k => d.testBit k = true) l.length) w.heap (drawW n P l [] Q q) Q := by
          have := hst.cont
          unfold drawW at this
          rw [ho] at this
          exact this
        have hag : ∀ t ∈ touch l i, (ES n l vals ρ0 (fun k => d.testBit k = true) l.length).get t = ρ.get t := by
          intro t ht
          rw [hst.env t]
          exact ES_fits (i := i) (fits_S hv hst.closed hrd hnin ht) (fits_S hv hc hrdy hni ht) hnin hni (fun _ _ _ => rfl) _
        have hG := opG_trans (K' := fun ρ' H' => ∃ v, ρ' = ρ.put n o.dst v ∧ drawW n P l [] Q q ((ES n l vals ρ0 (fun k => d.testBit k = true) l.length).put n o.dst v) H') ho hqi hag
          (fun v H' h => ⟨v, rfl, h⟩) (fun c H' h => hpan c _ _ H' (by rw [ES_ds]; exact hds.symm) h) hcont
        have hS := opG_sound hr ha hG
        unfold wpOp
        simp only [List.getElem?_toArray, ho]
        have next : ∀ a' w', up n w0 (fun ρ' H' => ∃ v, ρ' = ρ.put n o.dst v ∧ drawW n P l [] Q q ((ES n l vals ρ0 (fun k => d.testBit k = true) l.length).put n o.dst v) H') a' w' →
            wpAny P .any l.toArray (upQ n w0 Q) fuel (listed.setIfInBounds i true) a' w' := by
          rintro a' w' ⟨hr', ρ', ha', v, rfl, hk⟩
          have hst' : DSt n P l [] Q ρ0 (fun k => (listed.setIfInBounds i true).getD k false = true) (ρ.put n o.dst v) w'.heap (fun k => if k = i then v else vals k) fl (d ||| 2 ^ i) q := by
            refine { ok := g4, closed := closed_add hst.closed hrd, env := ?_, sub := ?_, eff := ?_, pend := ?_, cont := ?_ }
            · have := henv (fun k => if k = i then v else vals k) (fun k hk => if_neg hk)
              simpa using this
            · intro k hk
              rcases (hset k).1 hk with hk | rfl
              · exact bit_or.2 (.inl (hst.sub k hk))
              · exact bit_or.2 (.inr rfl)
            · intro k hk he
              rcases bit_or.1 hk with hk | rfl
              · exact (hset _).2 (.inl (hst.eff k hk he))
              · exact (hset _).2 (.inr rfl)
            · intro k hk hnk
              exfalso
              rcases bit_or.1 hk with hk | rfl
              · have hnk' : ¬ listed.getD k false = true := fun h => hnk ((hset _).2 (.inl h))
                obtain ⟨o', ρi, h1, h2, h2', h3, h4⟩ := hst.pend k hk hnk'
                have hkl := (List.getElem?_eq_some_iff.1 h1).1
                have hke : effAt l k = false := by unfold effAt; rw [h1]; simp [h2]
                rw [List.all_eq_true] at gd
                have h5 := gd k (by simpa using hkl)
                rw [hk, hke] at h5
                simp only [Bool.not_true, Bool.false_or, Bool.or_eq_true] at h5
                rcases h5 with h5 | hcomp
                · exact hnk' (masks_spec hc h5 hrdy)
                · unfold compOK at hcomp
                  rw [List.all_eq_true] at hcomp
                  have h6 := hcomp i (by simpa using hil)
                  rw [heff] at h6
                  simp only [Bool.not_true, Bool.false_or, Bool.or_eq_true] at h6
                  rcases h6 with h6 | h6
                  · exact hnin (masks_spec hst.closed h6 ⟨l[k], by simp [hkl], fun e he hb => hst.closed k l[k] (by simp [hkl]) hk e he hb⟩)
                  · exact hnk' (masks_spec hc h6 hrdy)
              · exact hnk ((hset _).2 (.inr rfl))
            · rw [env_add hv ho hst.closed hrd hnin]
              exact hk
          obtain ⟨vals', fl', d', p', hst'', hhead'⟩ := advance hv q _ _ _ hst'
          exact ih [] (listed.setIfInBounds i true) (ρ.put n o.dst v) w' a' vals' fl' d' p' hs' hcnt' hr' ha' (by rw [ds_put]; exact hds) (fun _ _ h => by simp [lookA] at h) hc' hst'' hhead'
        split
        · rename_i hw
          rw [if_pos hw] at hS
          exact hS.imp (Oper.wp_mono next) id
        · rename_i hw
          rw [if_neg hw] at hS
          exact next _ _ hS
      | acth j q =>
        simp only [planOK, Bool.and_eq_true] at hok
        obtain ⟨⟨⟨⟨⟨g0, g1⟩, g2⟩, g3⟩, gd⟩, g4⟩ := hok
        have hij : i = j := by
          rw [List.all_eq_true] at g0
          have := g0 i (by simpa using hil)
          rw [hrm, heff] at this
          simpa using this
        subst hij
        have hcont : opG n P l.toArray o (ES n l vals ρ0 (fun k => d.testBit k = true) l.length) w.heap (fun ρ' H' => ∃ hl', heldOK hl' H' ∧ drawW n P l hl' Q q ρ' H') Q := by
          have := hst.cont
          unfold drawW at this
          rw [ho] at this
          exact this
        have hag : ∀ t ∈ touch l i, (ES n l vals ρ0 (fun k => d.testBit k = true) l.length).get t = ρ.get t := by
          intro t ht
          rw [hst.env t]
          exact ES_fits (i := i) (fits_S hv hst.closed hrd hnin ht) (fits_S hv hc hrdy hni ht) hnin hni (fun _ _ _ => rfl) _
        have hG := opG_trans (K' := fun ρ' H' => ∃ v, ρ' = ρ.put n o.dst v ∧ ∃ hl', heldOK hl' H' ∧ drawW n P l hl' Q q ((ES n l vals ρ0 (fun k => d.testBit k = true) l.length).put n o.dst v) H') ho hqi hag
          (fun v H' h => ⟨v, rfl, h⟩) (fun c H' h => hpan c _ _ H' (by rw [ES_ds]; exact hds.symm) h) hcont
        have hS := opG_sound hr ha hG
        unfold wpOp
        simp only [List.getElem?_toArray, ho]
        have next : ∀ a' w', up n w0 (fun ρ' H' => ∃ v, ρ' = ρ.put n o.dst v ∧ ∃ hl', heldOK hl' H' ∧ drawW n P l hl' Q q ((ES n l vals ρ0 (fun k => d.testBit k = true) l.length).put n o.dst v) H') a' w' →
            wpAny P .any l.toArray (upQ n w0 Q) fuel (listed.setIfInBounds i true) a' w' := by
          rintro a' w' ⟨hr', ρ', ha', v, rfl, hl', hh', hk⟩
          have hst' : DSt n P l hl' Q ρ0 (fun k => (listed.setIfInBounds i true).getD k false = true) (ρ.put n o.dst v) w'.heap (fun k => if k = i then v else vals k) fl (d ||| 2 ^ i) q := by
            refine { ok := g4, closed := closed_add hst.closed hrd, env := ?_, sub := ?_, eff := ?_, pend := ?_, cont := ?_ }
            · have := henv (fun k => if k = i then v else vals k) (fun k hk => if_neg hk)
              simpa using this
            · intro k hk
              rcases (hset k).1 hk with hk | rfl
              · exact bit_or.2 (.inl (hst.sub k hk))
              · exact bit_or.2 (.inr rfl)
            · intro k hk he
              rcases bit_or.1 hk with hk | rfl
              · exact (hset _).2 (.inl (hst.eff k hk he))
              · exact (hset _).2 (.inr rfl)
            · intro k hk hnk
              exfalso
              rcases bit_or.1 hk with hk | rfl
              · have hnk' : ¬ listed.getD k false = true := fun h => hnk ((hset _).2 (.inl h))
                obtain ⟨o', ρi, h1, h2, h2', h3, h4⟩ := hst.pend k hk hnk'
                have hkl := (List.getElem?_eq_some_iff.1 h1).1
                have hke : effAt l k = false := by unfold effAt; rw [h1]; simp [h2]
                rw [List.all_eq_true] at gd
                have h5 := gd k (by simpa using hkl)
                rw [hk, hke] at h5
                simp only [Bool.not_true, Bool.false_or, Bool.or_eq_true] at h5
                rcases h5 with h5 | hcomp
                · exact hnk' (masks_spec hc h5 hrdy)
                · unfold compOK at hcomp
                  rw [List.all_eq_true] at hcomp
                  have h6 := hcomp i (by simpa using hil)
                  rw [heff] at h6
                  simp only [Bool.not_true, Bool.false_or, Bool.or_eq_true] at h6
                  rcases h6 with h6 | h6
                  · exact hnin (masks_spec hst.closed h6 ⟨l[k], by simp [hkl], fun e he hb => hst.closed k l[k] (by simp [hkl]) hk e he hb⟩)
                  · exact hnk' (masks_spec hc h6 hrdy)
              · exact hnk ((hset _).2 (.inr rfl))
            · rw [env_add hv ho hst.closed hrd hnin]
              exact hk
          obtain ⟨vals', fl', d', p', hst'', hhead'⟩ := advance hv q _ _ _ hst'
          exact ih hl' (listed.setIfInBounds i true) (ρ.put n o.dst v) w' a' vals' fl' d' p' hs' hcnt' hr' ha' (by rw [ds_put]; exact hds) hh' hc' hst'' hhead'
        split
        · rename_i hw
          rw [if_pos hw] at hS
          exact hS.imp (Oper.wp_mono next) id
        · rename_i hw
          rw [if_neg hw] at hS
          exact next _ _ hS

/-- A region that draws its order, by a plan. -/
theorem draw_by {id : Nat} {ρ : En} {H : Heap} (p : Plan) (hl : List (Addr × Value)) (hm : P.follows .mixedOrders = true) (hok : drawOK l p = true) (hpan : PanOK Q) (hh : heldOK hl H)
    (h : drawW n P l hl Q p ρ H) : @stop ⟨CW n P (.region id l.toArray true) Q ρ H⟩ := by
  intro w0 w a hr hw ha
  subst hw
  unfold drawOK at hok
  simp only [Bool.and_eq_true] at hok
  obtain ⟨⟨h1, h2⟩, h3⟩ := hok
  refine wp_region_any hm ?_
  have none : ∀ k, ¬ (Array.replicate l.toArray.size false).getD k false = true := by
    intro k
    rw [Array.getD_eq_getD_getElem?, Array.getElem?_replicate]
    split <;> simp
  have hst : DSt n P l hl Q ρ (fun k => (Array.replicate l.toArray.size false).getD k false = true) ρ w.heap (fun _ => undef) (fun _ => false) 0 p := by
    have e0 : ∀ (S : Nat → Prop), (∀ k, ¬ S k) → ∀ k, ES n l (fun _ => undef) ρ S k = ρ := by
      intro S hS k
      induction k with
      | zero => rfl
      | succ k ih => rw [ES_succ, if_neg (hS k), ih]
    refine { ok := h3, closed := fun j o _ hs => by simp at hs, env := fun t => by rw [e0 _ none], sub := fun k hk => absurd hk (none k), eff := fun k hk => by simp at hk, pend := fun k hk => by simp at hk, cont := ?_ }
    rw [e0 _ (fun k => by simp)]
    exact h
  obtain ⟨vals', fl', d', p', hst', hhead⟩ := advance h2 p 0 _ _ hst
  refine draw_main hpan h2 h1 _ hl _ ρ { w with drawn := w.drawn + 1 } a vals' fl' d' p' (by simp) ?_ ⟨hr.os, hr.tape, hr.output⟩ ha rfl hh ?_ hst' hhead
  · exact Nat.le_trans (List.countP_le_length) (by simp)
  · intro j o hj hs
    exact absurd hs (none j)
end

end Go.HL

