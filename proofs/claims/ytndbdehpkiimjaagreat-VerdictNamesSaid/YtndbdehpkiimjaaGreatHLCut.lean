
/- Conditions are monotone: a proof may stop behind a block, and say what holds there. -/
import Derived.Test.YtndbdehpkiimjaaGreatHLVec
namespace Go.HL
section
variable {n : Nat} {P : Program}
theorem opV_mono {o : Oper} {ρ : En} {H : Heap} {K K' : En → Heap → Prop} {Q Q' : Exit → En → Heap → Prop} (hk : ∀ ρ H, K ρ H → K' ρ H) (hq : ∀ e ρ H, Q e ρ H → Q' e ρ H) (hv : opV n P o ρ H K Q) : opV n P o ρ H K' Q' := by
  obtain ⟨dst, op, type, pos, after, guard⟩ := o
  unfold opV at hv ⊢
  simp only at hv ⊢
  split at hv
  · unfold ptrW at hv ⊢
    split at hv
    · rename_i ad ha
      simp only [withV, someW_iff] at hv ⊢
      obtain ⟨H', hs, hk'⟩ := hv
      exact ⟨H', hs, hk _ _ hk'⟩
    · exact hv.elim
  · simp only [someW_iff] at hv ⊢
    obtain ⟨z, hz, hk'⟩ := hv
    exact ⟨z, hz, hk _ _ hk'⟩
  · exact hk _ _ hv
  · simp only [someW_iff] at hv ⊢
    obtain ⟨z, hz, hk'⟩ := hv
    exact ⟨z, hz, hk _ _ hk'⟩
  · simp only [someW_iff] at hv ⊢
    obtain ⟨z, hz, hk'⟩ := hv
    exact ⟨z, hz, hk _ _ hk'⟩
  · exact hk _ _ hv
  · exact mapW_mono (fun H' => hk _ H') (fun v H' => hq _ _ H') hv
  · exact mapW_mono (fun H' => hk _ H') (fun v H' => hq _ _ H') hv
  · rename_i args ats
    split at hv
    · rename_i t xt s x ht hx
      simp only [withV] at hv ⊢
      unfold appW at hv ⊢
      split at hv
      · rename_i base len cap heq
        simp only [heq, someW_iff] at hv ⊢
        obtain ⟨e, he, size, hsz, bytes, hby, z, hz, m, hm, new, hnew, d, hd, hdi, hv⟩ := hv
        refine ⟨e, he, size, hsz, bytes, hby, z, hz, m, hm, new, hnew, d, hd, hdi, ?_⟩
        split at hv
        · rename_i hf
          rw [if_pos hf]
          cases base with
          | none => exact hk _ _ hv
          | some a =>
            obtain ⟨H', h1, h2⟩ := hv
            exact ⟨H', h1, hk _ _ h2⟩
        · rename_i hf
          rw [if_neg hf]
          obtain ⟨h1, h2, h3, old, h4, h5⟩ := hv
          exact ⟨h1, h2, h3, old, h4, fun nc a b => hk _ _ (h5 nc a b)⟩
      · exact hv.elim
    · exact hv.elim
  · exact hwp_mono P _ _ _ _ _ _ (fun v H' hx => hk _ H' hx) (fun _ _ hx => hx) hv
  · exact hwp_mono P _ _ _ _ _ _ (fun v H' hx => hk _ H' hx) (fun _ _ hx => hx) hv
  · unfold callV at hv ⊢
    split at hv
    · exact hv.mono (fun v H' => hk _ H') (fun c H' => hq _ _ H')
    · exact hv.elim
  · exact invW.mono hv (fun v H' => hk _ H') (fun c H' => hq _ _ H')
  · unfold panW at hv ⊢
    split at hv
    · exact hq _ _ _ hv
    · exact hv.elim
  · simp only [someW_iff] at hv ⊢
    obtain ⟨z, hz, hk'⟩ := hv
    exact ⟨z, hz, hk _ _ hk'⟩
theorem opG_mono {ops : Array Oper} {o : Oper} {ρ : En} {H : Heap} {K K' : En → Heap → Prop} {Q Q' : Exit → En → Heap → Prop} (hk : ∀ ρ H, K ρ H → K' ρ H) (hq : ∀ e ρ H, Q e ρ H → Q' e ρ H) (h : opG n P ops o ρ H K Q) : opG n P ops o ρ H K' Q' := by
  unfold opG at h ⊢
  cases hg : o.guard with
  | none => rw [hg] at h; exact opV_mono hk hq h
  | some g =>
    obtain ⟨j, want⟩ := g
    rw [hg] at h
    simp only [guardW] at h ⊢
    cases hv : slotOf ops ρ j with
    | bool b => rw [hv] at h; exact ⟨fun e => opV_mono hk hq (h.1 e), fun e => hk _ _ (h.2 e)⟩
    | _ => rw [hv] at h; exact hk _ _ h
theorem opsWp_mono {ops : Array Oper} {Q Q' : Exit → En → Heap → Prop} (hq : ∀ e ρ H, Q e ρ H → Q' e ρ H) : ∀ (l : List Oper) (ρ : En) (H : Heap), opsWp n P ops Q l ρ H → opsWp n P ops Q' l ρ H := by
  intro l
  induction l with
  | nil => intro ρ H h; exact hq _ _ _ h
  | cons o l ih => intro ρ H h; exact opG_mono (fun ρ H => ih ρ H) hq h
theorem cw_mono (c : Code) : ∀ {Q Q' : Exit → En → Heap → Prop} (_ : ∀ e ρ H, Q e ρ H → Q' e ρ H) {ρ : En} {H : Heap}, cw n P c Q ρ H → cw n P c Q' ρ H := by
  induction c with
  | skip => intro Q Q' hq ρ H h; exact hq _ _ _ h
  | region id ops draw =>
    intro Q Q' hq ρ H h
    cases draw with
    | true => exact CW.mono hq h
    | false => exact opsWp_mono hq _ _ _ h
  | seq x y ihx ihy =>
    intro Q Q' hq ρ H h
    refine ihx ?_ h
    intro e ρ H hx
    cases e <;> first | exact ihy hq hx | exact hq _ _ _ hx
  | cond c x y ihx ihy =>
    intro Q Q' hq ρ H h
    simp only [cw] at h ⊢
    unfold condW at h ⊢
    split at h
    · exact ⟨fun e => ihx hq (h.1 e), fun e => ihy hq (h.2 e)⟩
    · exact h.elim
  | block id c ih =>
    intro Q Q' hq ρ H h
    refine ih ?_ h
    intro e ρ H hx
    cases e with
    | exit i =>
      simp only [blkQ] at hx ⊢
      split at hx
      · rename_i hi; rw [if_pos hi]; exact hq _ _ _ hx
      · rename_i hi; rw [if_neg hi]; exact hq _ _ _ hx
    | _ => exact hq _ _ _ hx
  | exit id => intro Q Q' hq ρ H h; exact hq _ _ _ h
  | ret => intro Q Q' hq ρ H h; exact hq _ _ _ h
  | label l => intro Q Q' hq ρ H h; exact hq _ _ _ h
  | _ => intro Q Q' hq ρ H h; exact CW.mono hq h
/-- What holds behind a piece of code. -/
theorem cut_at {c : Code} {K : En → Heap → Prop} {Q : Exit → En → Heap → Prop} {ρ : En} {H : Heap} (R : En → Heap → Prop)
    (h : cw n P c (seqQ (fun ρ H => @stop ⟨R ρ H⟩) Q) ρ H) (h2 : ∀ ρ H, R ρ H → K ρ H) : cw n P c (seqQ K Q) ρ H := by
  refine cw_mono c ?_ h
  intro e ρ H hx
  cases e <;> first | exact h2 _ _ hx | exact hx
/-- The same, of a piece of code that is the last of a block. -/
theorem cut_tail {c : Code} {Q : Exit → En → Heap → Prop} {ρ : En} {H : Heap} (R : En → Heap → Prop)
    (h : cw n P c (seqQ (fun ρ H => @stop ⟨R ρ H⟩) Q) ρ H) (h2 : ∀ ρ H, R ρ H → Q .normal ρ H) : cw n P c Q ρ H := by
  refine cw_mono c ?_ h
  intro e ρ H hx
  cases e <;> first | exact h2 _ _ hx | exact hx
/-- A struct that is laid into a block that has just been made. -/
theorem setH_push {H : Heap} {c : Array Value} {t : TypeId} {i : Nat} {v : Value} : setH (H.push (.cells c t)) ⟨H.size, i, none⟩ v = H.push (.cells (c.setIfInBounds i v) t) := by
  unfold setH
  apply Array.ext_getElem?
  intro j
  rw [Array.getElem?_modify]
  split
  · rename_i e
    simp at e; subst e
    simp
  · rename_i e
    simp at e
    rw [Array.getElem?_push, Array.getElem?_push]
    simp [Ne.symm e]
theorem wrs_push {H : Heap} {t : TypeId} : ∀ (new pre old : List Value), old.length = new.length → wrs (H.push (.cells (pre ++ old).toArray t)) ⟨H.size, 0, none⟩ new pre.length = some (H.push (.cells (pre ++ new).toArray t)) := by
  intro new
  induction new with
  | nil => intro pre old h; have : old = [] := by cases old <;> simp_all
           subst this; rfl
  | cons v new ih =>
    intro pre old h
    cases old with
    | nil => simp at h
    | cons u old =>
      have hb : Blk (H.push (.cells (pre ++ u :: old).toArray t)) H.size t (pre ++ u :: old) := Blk.new rfl
      simp only [wrs]
      rw [addr_add, Nat.zero_add, hb.wr (by simp) v, Option.bind_some, setH_push]
      have e : (pre ++ u :: old).toArray.setIfInBounds pre.length v = ((pre ++ [v]) ++ old).toArray := by simp
      have := ih (pre ++ [v]) old (by simpa using h)
      rw [e]
      simpa using this
theorem store_new {H : Heap} {z vs : List Value} {t : TypeId} (hs : sizeT P t = some vs.length) (hz : z.length = vs.length) (h1 : ∀ v ∈ vs, oneC v = true) : storeA P (H.push (.cells z.toArray t)) t ⟨H.size, 0, none⟩ (.agg vs.toArray) = some (H.push (.cells vs.toArray t)) := by
  rw [storeA_cells (vs := vs) rfl h1, hs, Option.bind_some, chk, if_pos rfl]
  exact wrs_push vs [] z hz
end
end Go.HL
