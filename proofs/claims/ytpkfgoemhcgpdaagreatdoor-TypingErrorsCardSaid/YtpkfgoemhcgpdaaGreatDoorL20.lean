/- From a contract of a law over heaps to the given row. -/
import Derived.Test.YtpkfgoemhcgpdaaGreatDoorRows
import Derived.Test.YtpkfgoemhcgpdaaGreatDoorL05
import Derived.WalkKit
import Derived.ProofKit
import Derived.OpenShut
import Derived.Test.YtpkfgoemhcgpdaaGreatDoorL19
import Derived.LaidMore
import Derived.MakeChecks
import Derived.LaidHandle
namespace Go.HL
open Go.ChangeShapes Go.WideShapes Go.ChangeAt Go.RowKit

theorem hcalls_of_callF {P : Program} {f : FuncId} {fn : Func} {args : List Value} {H : Heap} {R : Value → Heap → Prop} {E : List PanicEntry → Heap → Prop} (hf : P.funcs[f]? = some fn) (hb : fn.body.isNone = false)
    (hm : (fn.name == "runtime.NumGoroutine") = false) (h : CallF P f args H R E) : HCalls P f args.toArray H R E := by
  unfold CallF callFunc at h
  rw [hwp_bind'] at h
  have h' : hwp P (match P.funcs[f]? with
    | none => stuck "call: no such function"
    | some fn =>
      if fn.name == "runtime.NumGoroutine" then pure .numGoroutine
      else if fn.body.isNone then do
        mark (.extern f)
        if let some e := Extern.findNext fn then return ← e args.toArray
        match Extern.find fn with
        | some e => pure (.value (← e args.toArray))
        | none =>
          if fn.name.endsWith ".init" && !fn.name.startsWith "(" && !fn.name.startsWith "gosem." then pure (.value (.tuple #[]))
          else unsupported (.extern fn.name)
      else pure (.enter f args.toArray)) H (fun nx H' => match nx with
    | .value v => R v H'
    | .enter f xs => HCalls P f xs H' R E
    | _ => False) (fun v H' => E [{ v, recovered := false }] H') := h
  rw [hf] at h'
  simp only [hm, hb, Bool.false_eq_true, if_false] at h'
  exact h'

section
variable {H : Type} {enc : TypeId × Value → H} {P : Program}
theorem trodAll_stays (hl : laidOutB P = true) {W W' : World} {sp : Nat → Bool} : ∀ (ts : List TypeId) (vs : List Value) (ds : List (DataW H)) (ps : List MemPlace), (∀ t ∈ ts, P.readableRec t = true ∧ t < P.types.size) →
    DataW.TrodAll enc P W 0 (fun _ => true) true ts vs ds ps → (∀ p ∈ ps, W.sameAt W' p) → (∀ p ∈ ps, sp p.block = true) → DataW.TrodAll enc P W' 0 sp true ts vs ds ps := by
  intro ts
  induction ts with
  | nil => intro vs ds ps _ h _ _; cases vs <;> cases ds <;> first | exact h | exact h.elim
  | cons t ts ih =>
    intro vs ds ps hr h hs hsp
    cases vs with
    | nil => exact h.elim
    | cons v vs =>
      cases ds with
      | nil => exact h.elim
      | cons d ds =>
        obtain ⟨p, q, h1, h2, rfl⟩ := h
        exact ⟨p, q, WideElems.Trod_stays hl (hr t (by simp)).1 (hr t (by simp)).2 h1 (fun x hx => hs x (by simp [hx])) (fun x hx => hsp x (by simp [hx])),
          ih vs ds q (fun u hu => hr u (by simp [hu])) h2 (fun x hx => hs x (by simp [hx])) (fun x hx => hsp x (by simp [hx])), rfl⟩

theorem law_post {f : Func} {s : ChangeSpec} {W W' : World} {args : Array Value} {ds gs : List (DataW H)} {before : List MemPlace} {tb : TypeId} (hl : laidOutB P = true) (hr : ∀ t ∈ f.params.toList, P.readableRec t = true ∧ t < P.types.size)
    (hres : f.resultTypes = #[tb]) (htb : P.underlying tb = some .bool) (hsv : s.vars = []) (hsr : (s.fn H (ds ++ gs)).results = [.lit (.bool true)]) (hsa : (s.fn H (ds ++ gs)).args = ds) (hsg : (s.fn H (ds ++ gs)).vars = [])
    (hW : DataW.Whole enc P f.params.toList s.vars false W args.toList ds gs before) (hb : Below W.heap.size W W') : s.post enc P f false true false false W args (.bool true) W' := by
  have hW' := hW
  obtain ⟨p, q, hA, hV, rfl, hfz, hnd⟩ := hW
  have hlt : ∀ x ∈ p, x.block < W.heap.size := fun x hx => hW'.lt x (by simp [hx])
  refine ⟨ds, gs, p ++ q, [], p, [], hW', ?_, ?_, ?_, hb.frame _, fun h => by cases h⟩
  · rw [hres, hsr]
    exact trodAll_cons_mk (shut_bool htb true) trodAll_mk0
  · rw [hsa]
    exact trodAll_stays hl _ _ _ _ hr hA (fun x hx => hb.same (hlt x hx)) (fun x hx => by simpa using hlt x hx)
  · rw [hsv, hsg]; rfl

theorem calls_of_hcalls {f : FuncId} {args : Array Value} {W : World} {R : World → Prop} (h : HCalls P f args W.heap (fun r H' => r = .bool true ∧ Fr [] W.heap H') NoP)
    (hR : ∀ W', Below W.heap.size W W' → R W') : Calls P f args W fun e W' => ∃ v, e = .returned v ∧ v = .bool true ∧ R W' := by
  refine (h W rfl).mono ?_
  rintro e W' ⟨hr, hx⟩
  cases e with
  | returned v =>
    obtain ⟨rfl, hf⟩ := hx
    exact ⟨_, rfl, rfl, hR W' ⟨hr.os, hr.tape, hr.output, hf.size, fun k hk => hf.same k hk (by simp)⟩⟩
  | panicked c => exact hx.elim
  | outgrown => exact hx.elim

/-- An argument that is a slice of integers of 64 bits: its numbers. -/
structure ArgInts (Hp : Heap) (k : IntKind) (v : Value) (zs : List Int) : Prop where
  ex : ∃ b o c, (v = .slice none 0 0 ∧ zs = []) ∨ (∃ a, v = .slice (some a) zs.length c ∧ (zs ≠ [] → a = ⟨b, o, none⟩) ∧ ∀ i, i < zs.length → cellH Hp ⟨b, o + i, none⟩ = some (.int k (nt zs i)))
  rng : ∀ n ∈ zs, (Lit.int k n).wf = true
theorem arg_ints {W : World} {r : Reach} {b0 : Nat} {t e : TypeId} {k : IntKind} {v : Value} {d : DataW H} {ps : List MemPlace} (ht : P.underlying t = some (.slice e)) (he : P.underlying e = some (.int k)) (hc : P.cellsOf e = 1)
    (hval : Value.okWide P W r b0 t v) (hd : DataW.Trod enc P W 0 (fun _ => true) true t v d ps) : ∃ zs, ArgInts W.heap k v zs := by
  obtain ⟨a0, len, cap, rfl⟩ := okWide_slice ht hval
  obtain ⟨fuel, hf⟩ := hd
  rcases open_ints ht he hc hf with ⟨hcs, _⟩ | ⟨a, len', cap', zs, hcs, _, hl, hm, hz, _, hcell, hwz⟩
  · simp [Value.cells] at hcs
    obtain ⟨rfl, rfl, rfl⟩ := hcs
    exact ⟨[], ⟨⟨0, 0, 0, .inl ⟨rfl, rfl⟩⟩, by simp⟩⟩
  · simp [Value.cells] at hcs
    obtain ⟨rfl, rfl, rfl⟩ := hcs
    simp only [if_true] at hz
    have hlen : (zs.take len).length = len := by simp; omega
    refine ⟨zs.take len, ⟨⟨a.block, a.off, cap, .inr ⟨a, by rw [hlen], ?_, ?_⟩⟩, fun n hn => hwz n (List.mem_of_mem_take hn)⟩⟩
    · intro hne
      have h0 : 0 < len := by
        rcases Nat.eq_zero_or_pos len with h | h
        · subst h; simp at hne
        · exact h
      have := hcell 0 (by omega)
      cases a with
      | mk b o s =>
        cases s with
        | none => rfl
        | some x =>
          exfalso
          simp [Addr.add, World.cell?] at this
          split at this <;> simp at this
    · intro i hi
      have hne : zs.take len ≠ [] := by intro e; rw [e] at hi; simp at hi
      rw [hlen] at hi
      have hc1 := hcell i (by omega)
      have h0 := hcell 0 (by omega)
      have ha : a = ⟨a.block, a.off, none⟩ := by
        cases a with
        | mk b o s =>
          cases s with
          | none => rfl
          | some x =>
            exfalso
            simp [Addr.add, World.cell?] at h0
            split at h0 <;> simp at h0
      rw [ha, addr_add] at hc1
      have e1 : cellH W.heap ⟨a.block, a.off + i, none⟩ = W.cell? ⟨a.block, a.off + i, none⟩ := rfl
      rw [e1, hc1]
      unfold nt
      rw [List.getD_eq_getElem?_getD, List.getD_eq_getElem?_getD, List.getElem?_take_of_lt hi]
end
theorem ArgInts.form {H : Heap} {k : IntKind} {v : Value} {zs : List Int} (h : ArgInts H k v zs) : ∃ a c, v = .slice a zs.length c := by
  obtain ⟨b, o, c, ⟨rfl, rfl⟩ | ⟨a, rfl, _⟩⟩ := h.ex
  · exact ⟨_, _, rfl⟩
  · exact ⟨_, _, rfl⟩
theorem ArgInts.some {H : Heap} {k : IntKind} {v : Value} {zs : List Int} (h : ArgInts H k v zs) (hne : 0 < zs.length) : ∃ b o c, v = .slice (some ⟨b, o, none⟩) zs.length c ∧ ∀ i, i < zs.length → cellH H ⟨b, o + i, none⟩ = some (.int k (nt zs i)) := by
  obtain ⟨b, o, c, ⟨rfl, rfl⟩ | ⟨a, rfl, ha, hc⟩⟩ := h.ex
  · simp at hne
  · have := ha (by intro e; rw [e] at hne; simp at hne)
    subst this
    exact ⟨b, o, c, rfl, hc⟩
theorem ArgInts.bnd {H : Heap} {v : Value} {zs : List Int} (h : ArgInts H .i64 v zs) {i : Nat} (hi : i < zs.length) : -9223372036854775808 ≤ nt zs i ∧ nt zs i ≤ 9223372036854775807 := by
  have hm : nt zs i ∈ zs := by
    have := nt_lt hi
    exact List.mem_of_getElem? this
  have := h.rng _ hm
  simpa [Lit.wf, IntKind.min, IntKind.max, IntKind.signed, IntKind.bits] using this

theorem argCells {H : Heap} {k : IntKind} {v : Value} {zs : List Int} (h : ArgInts H k v zs) : ∃ a c, v = .slice a zs.length c ∧ ∀ i, i < zs.length → ∃ b o, a = some ⟨b, o, none⟩ ∧ cellH H ⟨b, o + i, none⟩ = some (.int k (nt zs i)) := by
  by_cases hz : 0 < zs.length
  · obtain ⟨b, o, c, rfl, hc⟩ := h.some hz
    exact ⟨_, _, rfl, fun i hi => ⟨b, o, rfl, hc i hi⟩⟩
  · obtain ⟨a, c, rfl⟩ := h.form
    exact ⟨a, c, rfl, fun i hi => by omega⟩
end Go.HL

namespace Go.HL
open Go.ChangeShapes Go.WideShapes Go.ChangeAt Go.RowKit

theorem omapM_some {α β : Type} {f : α → Option β} : ∀ {l : List α} {r : List β}, l.mapM f = some r → r.length = l.length ∧ ∀ (j : Nat) x, l[j]? = some x → ∃ y, f x = some y ∧ r[j]? = some y := by
  intro l
  induction l with
  | nil => intro r h; simp at h; subst h; simp
  | cons a l ih =>
    intro r h
    rw [List.mapM_cons] at h
    simp only [bind, Option.bind_eq_some_iff, pure, Option.some.injEq] at h
    obtain ⟨y, hy, r', hr, rfl⟩ := h
    obtain ⟨h1, h2⟩ := ih hr
    refine ⟨by simp [h1], fun j x hx => ?_⟩
    cases j with
    | zero => simp at hx; subst hx; exact ⟨y, hy, rfl⟩
    | succ j => simp at hx; simpa using h2 j x hx
theorem list_of {α : Type} {p : Nat → α → Prop} : ∀ {n : Nat}, (∀ i, i < n → ∃ x, p i x) → ∃ xs : List α, xs.length = n ∧ ∀ i x, xs[i]? = some x → p i x := by
  intro n
  induction n with
  | zero => intro _; exact ⟨[], rfl, by simp⟩
  | succ n ih =>
    intro h
    obtain ⟨xs, h1, h2⟩ := ih fun i hi => h i (by omega)
    obtain ⟨x, hx⟩ := h n (by omega)
    refine ⟨xs ++ [x], by simp [h1], fun i y hy => ?_⟩
    rw [List.getElem?_append] at hy
    split at hy
    · exact h2 i y hy
    · rename_i hi
      have : i = n := by
        have := (List.getElem?_eq_some_iff.1 hy).1
        simp at this; omega
      subst this
      simp [h1] at hy
      exact hy ▸ hx

section
variable {H : Type} {enc : TypeId × Value → H} {P : Program} {W : World}
abbrev TR (enc : TypeId × Value → H) (P : Program) (W : World) (t : TypeId) (cs : List Value) : Prop := ∃ fuel x, DataW.trod enc P W 0 (fun _ => true) true fuel t cs = some x
theorem TR.int {t : TypeId} {k : IntKind} {cs : List Value} (ht : P.underlying t = some (.int k)) (h : TR enc P W t cs) : ∃ n, cs = [.int k n] ∧ (Lit.int k n).wf = true := by
  obtain ⟨fuel, x, h⟩ := h
  cases fuel with
  | zero => simp [DataW.trod] at h
  | succ fuel =>
    unfold DataW.trod at h
    rw [ht] at h
    split at h <;> simp_all
theorem TR.bool {t : TypeId} {cs : List Value} (ht : P.underlying t = some .bool) (h : TR enc P W t cs) : ∃ b, cs = [.bool b] := by
  obtain ⟨fuel, x, h⟩ := h
  cases fuel with
  | zero => simp [DataW.trod] at h
  | succ fuel =>
    unfold DataW.trod at h
    rw [ht] at h
    split at h <;> simp_all
theorem TR.string {t : TypeId} {cs : List Value} (ht : P.underlying t = some .string) (h : TR enc P W t cs) : ∃ s, cs = [.string s] ∧ s.size ≤ maxLen := by
  obtain ⟨fuel, x, h⟩ := h
  cases fuel with
  | zero => simp [DataW.trod] at h
  | succ fuel =>
    unfold DataW.trod at h
    rw [ht] at h
    split at h <;> simp_all
theorem TR.struct {t : TypeId} {fs : Array Field} {cs : List Value} (ht : P.underlying t = some (.struct fs)) (h : TR enc P W t cs) :
    cs.length = P.cellsOf t ∧ ∀ f ∈ fs.toList, TR enc P W f.type ((cs.drop f.offset).take (P.cellsOf f.type)) := by
  obtain ⟨fuel, x, h⟩ := h
  cases fuel with
  | zero => simp [DataW.trod] at h
  | succ fuel =>
    unfold DataW.trod at h
    rw [ht] at h
    split at h <;> first | (simp at *; done) | skip
    rename_i fs' hfs
    simp only [Option.some.injEq, TypeDesc.struct.injEq] at hfs
    subst hfs
    split at h
    · rename_i h1
      simp only [Option.map_eq_some_iff] at h
      obtain ⟨y, hy, _⟩ := h
      refine ⟨h1, fun f hf => ?_⟩
      obtain ⟨j, hj⟩ := List.getElem?_of_mem hf
      obtain ⟨z, hz, _⟩ := (omapM_some hy).2 j f hj
      exact ⟨fuel, z, hz⟩
    · simp at h
/-- A slice: it is nil, or its elements are laid one behind the other. -/
theorem TR.slice {t e : TypeId} {z : Nat} {cs : List Value} (ht : P.underlying t = some (.slice e)) (hz : P.cellsOf e = z) (hz0 : 0 < z) (h : TR enc P W t cs) :
    ∃ a len cap, cs = [.slice a len cap] ∧ len ≤ maxLen ∧ (0 < len → ∃ b o, a = some ⟨b, o, none⟩ ∧ ∀ i, i < len → ∃ es, es.length = z ∧ (∀ j, j < z → cellH W.heap ⟨b, o + i * z + j, none⟩ = es[j]?) ∧ TR enc P W e es) := by
  obtain ⟨fuel, x, h⟩ := h
  cases fuel with
  | zero => simp [DataW.trod] at h
  | succ fuel =>
    unfold DataW.trod at h
    rw [ht] at h
    split at h <;> first | (simp at *; done) | skip
    · exact ⟨none, 0, 0, rfl, by simp, by omega⟩
    · rename_i e' a len cap he
      simp only [Option.some.injEq, TypeDesc.slice.injEq] at he
      subst he
      simp only at h
      split at h
      · rename_i hb
        simp only [Option.bind_eq_some_iff] at h
        obtain ⟨elems, hel, _⟩ := h
        refine ⟨some a, len, cap, rfl, by omega, fun hl => ?_⟩
        have hrow : ∀ i, i < len → ∃ es, es.length = z ∧ (∀ j, j < z → W.cell? ((a.add (i * z)).add j) = es[j]?) ∧ TR enc P W e es := by
          intro i hi
          obtain ⟨y, hy, _⟩ := (omapM_some hel).2 i i (by simp [hi])
          simp only [Option.bind_eq_some_iff] at hy
          obtain ⟨es, hes, hy⟩ := hy
          rw [hz] at hes
          unfold World.cells? at hes
          split at hes
          · obtain ⟨g1, g2⟩ := omapM_some hes
            simp at g1
            refine ⟨es, g1, fun j hj => ?_, fuel, y, hy⟩
            obtain ⟨u, hu, hr⟩ := g2 j j (by simp [hj])
            rw [hu, hr]
          · simp at hes
        have ha : a = ⟨a.block, a.off, none⟩ := by
          obtain ⟨es, g1, g2, _⟩ := hrow 0 hl
          have := g2 0 hz0
          cases a with
          | mk b o s =>
            cases s with
            | none => rfl
            | some q =>
              exfalso
              have h0 : es[0]? = some es[0] := by simp
              rw [h0] at this
              simp [Addr.add, World.cell?] at this
              split at this <;> simp at this
        refine ⟨a.block, a.off, by rw [← ha], fun i hi => ?_⟩
        obtain ⟨es, g1, g2, g3⟩ := hrow i hi
        refine ⟨es, g1, fun j hj => ?_, g3⟩
        rw [← g2 j hj, ha, addr_add, addr_add]
        rfl
      · simp at h
theorem TR.of {t : TypeId} {v : Value} {d : DataW H} {ps : List MemPlace} (h : DataW.Trod enc P W 0 (fun _ => true) true t v d ps) : TR enc P W t v.cells.toList := by
  obtain ⟨fuel, h⟩ := h
  exact ⟨fuel, _, h⟩
end
end Go.HL

namespace Go.HL
open Go Go.ChangeShapes Go.WideShapes Go.ChangeAt Go.RowKit
section
variable {H : Type} {enc : TypeId × Value → H} {P : Program} {W : World} {spare : Nat → Bool} {held : Bool} {base fuel n : Nat} {t e : TypeId} {cs : List Value} {ps : List MemPlace}
theorem take1 {L : List Value} {i : Nat} {v : Value} (h : (L.drop i).take 1 = [v]) : L[i]? = some v := by
  have := congrArg (fun m => m[0]?) h
  simpa using this
theorem tab_ints {k : IntKind} {zs : List Int} (ht : P.underlying t = some (.array n e)) (he : P.underlying e = some (.int k)) (hc : P.cellsOf e = 1)
    (h : DataW.trod enc P W base spare held fuel t cs = some (.agg (zs.map fun z => .lit (.int k z)), ps)) : ∀ (i : Nat) z, zs[i]? = some z → cs[i]? = some (.int k z) := by
  intro i z hz
  obtain ⟨xs, m, rfl, hx, _, hn, hel⟩ := DataW.trod_array ht h
  simp only [Prod.mk.injEq, DataW.agg.injEq] at hx
  have h1 := congrArg (fun m => m[i]?) hx.1
  simp only [List.getElem?_map, hz, Option.map_some] at h1
  cases hxi : xs[i]? with
  | none => rw [hxi] at h1; simp at h1
  | some x =>
    rw [hxi] at h1
    simp only [Option.map_some, Option.some.injEq] at h1
    have hi : i < n := by rw [← hn]; exact (List.getElem?_eq_some_iff.1 hxi).1
    have h2 := hel i hi
    rw [hc, Nat.mul_one, hxi] at h2
    obtain ⟨n', e1, e2, _⟩ := DataW.trod_int he h2
    rw [e2] at h1
    simp only [DataW.lit.injEq, Lit.int.injEq, true_and] at h1
    rw [h1]
    exact take1 e1
end
theorem str_of {b : ByteArray} (h : b.size ≤ maxLen) : ∃ s : Str, b = bs s ∧ s.length ≤ 9223372036854775807 := by
  refine ⟨b.data.toList, by unfold bs; rfl, ?_⟩
  rw [Array.length_toList]
  exact Nat.le_trans h (by decide)
end Go.HL
namespace Go.Proofs.YtpkfgoemhcgpdaaGreatDoor
open Go Go.ChangeShapes Go.WideShapes Go.ChangeAt Go.RowKit Go.HL
set_option maxRecDepth 10000
theorem gPw : Tryz.prog.globalNamed "internal/strconv.uint64pow10" = some 2 := by kernel_rfl
theorem tPw : (Tryz.prog.globals[2]?).map (·.type) = some 140 := by kernel_rfl
theorem gEt : Tryz.prog.globalNamed "errors.errorType" = some 0 := by kernel_rfl
theorem rtE : (Tryz.prog.cutTypes.find? (·.1 == "internal/reflectlite.rtype")).map (·.2) = some 82 := by kernel_rfl
theorem oneRow : ((List.range Tryz.prog.types.size).filter fun t => Tryz.prog.rowNamed t [101, 114, 114, 111, 114]) = [27] := by kernel_rfl
/-- The door's own heap meets the condition. -/
theorem door_met (os : Os) (args : Array Value) : laidMetH Tryz.prog Rows.typingErrorsRow.laid ((World.doorLaid Tryz.prog 400 os).forCall (fun _ _ => 0) ⟨#[], args, []⟩).memory :=
  laidMetH_of_parts3 (fuel := 8) (laidMet_of_run' 8 (by kernel_rfl) (by kernel_rfl)) (by kernel_rfl) (by kernel_rfl)
theorem gt_of {W : World} (h : laidMetH Tryz.prog Rows.typingErrorsRow.laid W) : GT W.heap ∧ GE W.heap := by
  have h' : laidMet Tryz.prog [("math/bits.deBruijn32tab", Rows.laid_math_bits_deBruijn32tab), ("math/bits.deBruijn64tab", Rows.laid_math_bits_deBruijn64tab), ("internal/strconv.uint64pow10", Rows.laid_internal_strconv_uint64pow10)] W ∧ handlesMet Tryz.prog [("errors.errorType", Rows.laid_errors_errorType)] W := h
  obtain ⟨h1, h2⟩ := h'
  constructor
  · obtain ⟨ps, ⟨g0, t0, cs0, f0, p0, q0, hg0, ht0, hv0, hd0, ⟨g1, t1, cs1, f1, p1, q1, hg1, ht1, hv1, hd1, ⟨g2, t2, cs2, f2, p2, q2, hg2, ht2, hv2, hd2, _, _⟩, _⟩, _⟩, _, _⟩ := h1
    obtain rfl := Option.some.inj (gPw.symm.trans hg2)
    obtain rfl := Option.some.inj (tPw.symm.trans ht2)
    have c3 : Tryz.prog.cellsOf 126 = 1 := by kernel_rfl
    have a3 := tab_ints (zs := (List.range 20).map fun i => ((10 ^ i : Nat) : Int)) Tryz.underlying140 Tryz.underlying126 c3 hd2
    refine ⟨fun i hi => ?_⟩
    have := a3 i ((10 ^ i : Nat) : Int) (by rw [List.getElem?_map, List.getElem?_range hi]; rfl)
    show W.cell? ⟨_, i, none⟩ = _
    rw [World.var?_cell gPw hv2 i]
    simpa using this
  · obtain ⟨name, u, ty, e1, e2, e3, e4, e5⟩ := h2 _ (List.mem_singleton.2 rfl)
    have en : name = [101, 114, 114, 111, 114] := (Option.some.inj e1).symm
    subst en
    obtain rfl := Option.some.inj (rtE.symm.trans e2)
    have hm : ty ∈ (List.range Tryz.prog.types.size).filter fun t => Tryz.prog.rowNamed t [101, 114, 114, 111, 114] := List.mem_filter.2 ⟨List.mem_range.2 e3, e4⟩
    rw [oneRow] at hm
    obtain rfl := List.mem_singleton.1 hm
    have hh : typeHandle Tryz.prog 27 = .pointer (some ⟨5, 27, none⟩) := by kernel_rfl
    rw [hh] at e5
    show W.cell? ⟨_, 0, none⟩ = _
    simpa using World.var?_cell gEt e5 0
end Go.Proofs.YtpkfgoemhcgpdaaGreatDoor

