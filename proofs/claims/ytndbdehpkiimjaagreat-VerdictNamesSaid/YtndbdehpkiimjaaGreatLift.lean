
/- From a contract of a law over heaps to the given row. -/
import Derived.Test.YtndbdehpkiimjaaGreatRows
import Derived.Test.YtndbdehpkiimjaaGreatHLApp
import Derived.WalkKit
import Derived.ProofKit
import Derived.OpenShut
namespace Go.HL
open Go.ChangeShapes Go.WideShapes Go.ChangeAt Go.RowKit

theorem hcalls_of_callF {P : Program} {f : FuncId} {fn : Func} {args : List Value} {H : Heap} {R : Value → Heap → Prop} {E : List PanicEntry → Heap → Prop} (hf : P.funcs[f]? = some fn) (hb : fn.body.isNone = false)
    (hm : (fn.name == "runtime.NumGoroutine") = false) (h : CallF P f args H R E) : HCalls P f args.toArray H R E := by
  unfold CallF callFunc at h
  rw [hwp_bind'] at h
  have h' : hwp P (match P.funcs[f]? with
    | none => stuck "call: no such function"
    | some fn =>
      if fn.name == "runtime.NumGoroutine" then pure .numGoroutine
      else if fn.body.isNone then do
        mark (.extern f)
        if let some e := Extern.findNext fn then return ← e args.toArray
        match Extern.find fn with
        | some e => pure (.value (← e args.toArray))
        | none =>
          if fn.name.endsWith ".init" && !fn.name.startsWith "(" && !fn.name.startsWith "gosem." then pure (.value (.tuple #[]))
          else unsupported (.extern fn.name)
      else pure (.enter f args.toArray)) H (fun nx H' => match nx with
    | .value v => R v H'
    | .enter f xs => HCalls P f xs H' R E
    | _ => False) (fun v H' => E [{ v, recovered := false }] H') := h
  rw [hf] at h'
  simp only [hm, hb, Bool.false_eq_true, if_false] at h'
  exact h'

section
variable {H : Type} {enc : TypeId × Value → H} {P : Program}
theorem trodAll_stays (hl : laidOutB P = true) {W W' : World} {sp : Nat → Bool} : ∀ (ts : List TypeId) (vs : List Value) (ds : List (DataW H)) (ps : List MemPlace), (∀ t ∈ ts, P.readableRec t = true ∧ t < P.types.size) →
    DataW.TrodAll enc P W 0 (fun _ => true) true ts vs ds ps → (∀ p ∈ ps, W.sameAt W' p) → (∀ p ∈ ps, sp p.block = true) → DataW.TrodAll enc P W' 0 sp true ts vs ds ps := by
  intro ts
  induction ts with
  | nil => intro vs ds ps _ h _ _; cases vs <;> cases ds <;> first | exact h | exact h.elim
  | cons t ts ih =>
    intro vs ds ps hr h hs hsp
    cases vs with
    | nil => exact h.elim
    | cons v vs =>
      cases ds with
      | nil => exact h.elim
      | cons d ds =>
        obtain ⟨p, q, h1, h2, rfl⟩ := h
        exact ⟨p, q, WideElems.Trod_stays hl (hr t (by simp)).1 (hr t (by simp)).2 h1 (fun x hx => hs x (by simp [hx])) (fun x hx => hsp x (by simp [hx])),
          ih vs ds q (fun u hu => hr u (by simp [hu])) h2 (fun x hx => hs x (by simp [hx])) (fun x hx => hsp x (by simp [hx])), rfl⟩

theorem law_post {f : Func} {s : ChangeSpec} {W W' : World} {args : Array Value} {ds gs : List (DataW H)} {before : List MemPlace} {tb : TypeId} (hl : laidOutB P = true) (hr : ∀ t ∈ f.params.toList, P.readableRec t = true ∧ t < P.types.size)
    (hres : f.resultTypes = #[tb]) (htb : P.underlying tb = some .bool) (hsv : s.vars = []) (hsr : (s.fn H (ds ++ gs)).results = [.lit (.bool true)]) (hsa : (s.fn H (ds ++ gs)).args = ds) (hsg : (s.fn H (ds ++ gs)).vars = [])
    (hW : DataW.Whole enc P f.params.toList s.vars false W args.toList ds gs before) (hb : Below W.heap.size W W') : s.post enc P f false true false false W args (.bool true) W' := by
  have hW' := hW
  obtain ⟨p, q, hA, hV, rfl, hfz, hnd⟩ := hW
  have hlt : ∀ x ∈ p, x.block < W.heap.size := fun x hx => hW'.lt x (by simp [hx])
  refine ⟨ds, gs, p ++ q, [], p, [], hW', ?_, ?_, ?_, hb.frame _, fun h => by cases h⟩
  · rw [hres, hsr]
    exact trodAll_cons_mk (shut_bool htb true) trodAll_mk0
  · rw [hsa]
    exact trodAll_stays hl _ _ _ _ hr hA (fun x hx => hb.same (hlt x hx)) (fun x hx => by simpa using hlt x hx)
  · rw [hsv, hsg]; rfl

theorem calls_of_hcalls {f : FuncId} {args : Array Value} {W : World} {R : World → Prop} (h : HCalls P f args W.heap (fun r H' => r = .bool true ∧ Fr [] W.heap H') NoP)
    (hR : ∀ W', Below W.heap.size W W' → R W') : Calls P f args W fun e W' => ∃ v, e = .returned v ∧ v = .bool true ∧ R W' := by
  refine (h W rfl).mono ?_
  rintro e W' ⟨hr, hx⟩
  cases e with
  | returned v =>
    obtain ⟨rfl, hf⟩ := hx
    exact ⟨_, rfl, rfl, hR W' ⟨hr.os, hr.tape, hr.output, hf.size, fun k hk => hf.same k hk (by simp)⟩⟩
  | panicked c => exact hx.elim
  | outgrown => exact hx.elim

/-- An argument that is a slice of integers of 64 bits: its numbers. -/
structure ArgInts (Hp : Heap) (k : IntKind) (v : Value) (zs : List Int) : Prop where
  ex : ∃ b o c, (v = .slice none 0 0 ∧ zs = []) ∨ (∃ a, v = .slice (some a) zs.length c ∧ (zs ≠ [] → a = ⟨b, o, none⟩) ∧ ∀ i, i < zs.length → cellH Hp ⟨b, o + i, none⟩ = some (.int k (nt zs i)))
  rng : ∀ n ∈ zs, (Lit.int k n).wf = true
theorem arg_ints {W : World} {r : Reach} {b0 : Nat} {t e : TypeId} {k : IntKind} {v : Value} {d : DataW H} {ps : List MemPlace} (ht : P.underlying t = some (.slice e)) (he : P.underlying e = some (.int k)) (hc : P.cellsOf e = 1)
    (hval : Value.okWide P W r b0 t v) (hd : DataW.Trod enc P W 0 (fun _ => true) true t v d ps) : ∃ zs, ArgInts W.heap k v zs := by
  obtain ⟨a0, len, cap, rfl⟩ := okWide_slice ht hval
  obtain ⟨fuel, hf⟩ := hd
  rcases open_ints ht he hc hf with ⟨hcs, _⟩ | ⟨a, len', cap', zs, hcs, _, hl, hm, hz, _, hcell, hwz⟩
  · simp [Value.cells] at hcs
    obtain ⟨rfl, rfl, rfl⟩ := hcs
    exact ⟨[], ⟨⟨0, 0, 0, .inl ⟨rfl, rfl⟩⟩, by simp⟩⟩
  · simp [Value.cells] at hcs
    obtain ⟨rfl, rfl, rfl⟩ := hcs
    simp only [if_true] at hz
    have hlen : (zs.take len).length = len := by simp; omega
    refine ⟨zs.take len, ⟨⟨a.block, a.off, cap, .inr ⟨a, by rw [hlen], ?_, ?_⟩⟩, fun n hn => hwz n (List.mem_of_mem_take hn)⟩⟩
    · intro hne
      have h0 : 0 < len := by
        rcases Nat.eq_zero_or_pos len with h | h
        · subst h; simp at hne
        · exact h
      have := hcell 0 (by omega)
      cases a with
      | mk b o s =>
        cases s with
        | none => rfl
        | some x =>
          exfalso
          simp [Addr.add, World.cell?] at this
          split at this <;> simp at this
    · intro i hi
      have hne : zs.take len ≠ [] := by intro e; rw [e] at hi; simp at hi
      rw [hlen] at hi
      have hc1 := hcell i (by omega)
      have h0 := hcell 0 (by omega)
      have ha : a = ⟨a.block, a.off, none⟩ := by
        cases a with
        | mk b o s =>
          cases s with
          | none => rfl
          | some x =>
            exfalso
            simp [Addr.add, World.cell?] at h0
            split at h0 <;> simp at h0
      rw [ha, addr_add] at hc1
      have e1 : cellH W.heap ⟨a.block, a.off + i, none⟩ = W.cell? ⟨a.block, a.off + i, none⟩ := rfl
      rw [e1, hc1]
      unfold nt
      rw [List.getD_eq_getElem?_getD, List.getD_eq_getElem?_getD, List.getElem?_take_of_lt hi]
end
theorem ArgInts.form {H : Heap} {k : IntKind} {v : Value} {zs : List Int} (h : ArgInts H k v zs) : ∃ a c, v = .slice a zs.length c := by
  obtain ⟨b, o, c, ⟨rfl, rfl⟩ | ⟨a, rfl, _⟩⟩ := h.ex
  · exact ⟨_, _, rfl⟩
  · exact ⟨_, _, rfl⟩
theorem ArgInts.some {H : Heap} {k : IntKind} {v : Value} {zs : List Int} (h : ArgInts H k v zs) (hne : 0 < zs.length) : ∃ b o c, v = .slice (some ⟨b, o, none⟩) zs.length c ∧ ∀ i, i < zs.length → cellH H ⟨b, o + i, none⟩ = some (.int k (nt zs i)) := by
  obtain ⟨b, o, c, ⟨rfl, rfl⟩ | ⟨a, rfl, ha, hc⟩⟩ := h.ex
  · simp at hne
  · have := ha (by intro e; rw [e] at hne; simp at hne)
    subst this
    exact ⟨b, o, c, rfl, hc⟩
theorem ArgInts.bnd {H : Heap} {v : Value} {zs : List Int} (h : ArgInts H .i64 v zs) {i : Nat} (hi : i < zs.length) : -9223372036854775808 ≤ nt zs i ∧ nt zs i ≤ 9223372036854775807 := by
  have hm : nt zs i ∈ zs := by
    have := nt_lt hi
    exact List.mem_of_getElem? this
  have := h.rng _ hm
  simpa [Lit.wf, IntKind.min, IntKind.max, IntKind.signed, IntKind.bits] using this

theorem argCells {H : Heap} {k : IntKind} {v : Value} {zs : List Int} (h : ArgInts H k v zs) : ∃ a c, v = .slice a zs.length c ∧ ∀ i, i < zs.length → ∃ b o, a = some ⟨b, o, none⟩ ∧ cellH H ⟨b, o + i, none⟩ = some (.int k (nt zs i)) := by
  by_cases hz : 0 < zs.length
  · obtain ⟨b, o, c, rfl, hc⟩ := h.some hz
    exact ⟨_, _, rfl, fun i hi => ⟨b, o, rfl, hc i hi⟩⟩
  · obtain ⟨a, c, rfl⟩ := h.form
    exact ⟨a, c, rfl, fun i hi => by omega⟩
end Go.HL
