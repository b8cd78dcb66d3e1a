/- A clause's literals are sorted: by the library's contract. -/
import Derived.Test.YtofooamimiijlaaGreatL15
import Derived.Shelf.SlSortCmp.NoneTotal
import Derived.Shelf.SlicesG.Cmp
import Derived.Lib.RowBridge
import Derived.Lib.SortBridge
import Derived.WalkKit
namespace Go.Proofs.YtofooamimiijlaaGreat
open Go.HL HM Go.Sat
set_option maxRecDepth 10000
set_option linter.unusedSimpArgs false
set_option linter.unusedVariables false

def litB (x : Int) : Bool := decide (x ≠ 0 ∧ -100000 ≤ x ∧ x ≤ 100000)
/-- Numbers that a clause may have. -/
abbrev Lt := {x : Int // -100000 ≤ x ∧ x ≤ 100000}
instance : Inhabited Lt := ⟨⟨0, by omega⟩⟩
def encL (x : Lt) : Value := .int .i64 x.1
/-- The order of a clause's literals, as a number. -/
def cfN (x y : Lt) : Int := if Lib.compareInt x.1.natAbs y.1.natAbs = 0 then Lib.compareInt y.1 x.1 else Lib.compareInt x.1.natAbs y.1.natAbs
instance decLtN {a b : Int} : Decidable (ltN a b) := by unfold ltN; infer_instance
theorem ltOf_cfN (x y : Lt) : ltOf cfN x y = decide (ltN x.1 y.1) := by
  unfold ltOf cfN Lib.compareInt
  refine decide_eq_decide.2 ?_
  unfold ltN
  by_cases h1 : (x.1.natAbs : Int) < y.1.natAbs
  · simp [h1]; omega
  · by_cases h2 : (y.1.natAbs : Int) < x.1.natAbs
    · simp [h1, h2]; omega
    · simp only [h1, h2, if_false, if_true]
      by_cases h3 : y.1 < x.1
      · simp [h3]; omega
      · by_cases h4 : x.1 < y.1
        · simp [h3, h4]; omega
        · simp [h3, h4]; omega
theorem swoN : Sort.SWO (ltOf cfN) where
  irrefl x := by rw [ltOf_cfN]; simp [ltN_irr]
  trans x y z h1 h2 := by
    rw [ltOf_cfN] at *
    simp only [decide_eq_true_eq] at *
    exact ltN_trans h1 h2
  ntrans x y z h1 h2 := by
    rw [ltOf_cfN] at *
    simp only [decide_eq_false_iff_not] at *
    unfold ltN at *; omega
theorem var_calls (x : Int) (hx : -100000 ≤ x ∧ x ≤ 100000) (W : World) : Calls Tryz.prog 53 #[.int .i64 x] W fun e w' => e = .returned (.int .i64 (x.natAbs : Nat)) ∧ w' = W := by
  by_cases h : x < 0
  · have hn : ((x.natAbs : Nat) : Int) = -x := by omega
    rw [hn]
    go_enter Tryz.func53, Tryz.ntmps53
    go_wp2
    go_ret
    exact ⟨rfl, rfl⟩
  · have hn : ((x.natAbs : Nat) : Int) = x := by omega
    rw [hn]
    go_enter Tryz.func53, Tryz.ntmps53
    go_wp2
    go_ret
    exact ⟨rfl, rfl⟩
theorem cmp_calls (x y : Lt) (W : World) : Calls Tryz.prog 55 #[encL x, encL y] W fun e w' => e = .returned (.int .i64 (cfN x y)) ∧ ∃ q, w' = W.drewN q := by
  have hx := x.2
  have hy := y.2
  obtain ⟨x, hx0⟩ := x
  obtain ⟨y, hy0⟩ := y
  simp only at hx hy
  unfold cfN encL
  simp only
  have v1 := fun W => var_calls x hx W
  have v2 := fun W => var_calls y hy W
  have c1 := fun W => AnyG.cmp_Compare_int Tryz.cmpL (x.natAbs : Int) (y.natAbs : Int) W
  have c2 := fun W => AnyG.cmp_Compare_int Tryz.cmpL y x W
  change ∀ W, Calls Tryz.prog 56 _ _ _ at c1
  change ∀ W, Calls Tryz.prog 56 _ _ _ at c2
  generalize (x.natAbs : Int) = ax at c1 v1 ⊢
  generalize (y.natAbs : Int) = ay at c1 v2 ⊢
  generalize Lib.compareInt ax ay = r1 at c1 ⊢
  generalize Lib.compareInt y x = r2 at c2 ⊢
  by_cases hr : r1 = 0
  · subst hr
    rw [if_pos rfl]
    go_enter Tryz.func55, Tryz.ntmps55
    go_wp2_with (first | (go_at_call 53; with_reducible refine (v1 _).mono ?_; rintro e w' ⟨rfl, rfl⟩) | (go_at_call 53; with_reducible refine (v2 _).mono ?_; rintro e w' ⟨rfl, rfl⟩) | (go_at_call 56; with_reducible refine (c1 _).mono ?_; rintro e w' ⟨rfl, rfl⟩) | (go_at_call 56; with_reducible refine (c2 _).mono ?_; rintro e w' ⟨rfl, rfl⟩))
    go_ret
    exact ⟨rfl, 0, rfl⟩
  · rw [if_neg hr]
    go_enter Tryz.func55, Tryz.ntmps55
    go_wp2_with (first | (go_at_call 53; with_reducible refine (v1 _).mono ?_; rintro e w' ⟨rfl, rfl⟩) | (go_at_call 53; with_reducible refine (v2 _).mono ?_; rintro e w' ⟨rfl, rfl⟩) | (go_at_call 56; with_reducible refine (c1 _).mono ?_; rintro e w' ⟨rfl, rfl⟩) | (go_at_call 56; with_reducible refine (c2 _).mono ?_; rintro e w' ⟨rfl, rfl⟩))
    go_ret
    exact ⟨rfl, 0, rfl⟩
theorem callF_of_hcalls {P : Program} {f : FuncId} {fn : Func} {args : List Value} {H : Heap} {R : Value → Heap → Prop} {E : List PanicEntry → Heap → Prop} (hf : P.funcs[f]? = some fn) (hb : fn.body.isNone = false)
    (hm : (fn.name == "runtime.NumGoroutine") = false) (h : HCalls P f args.toArray H R E) : CallF P f args H R E := by
  unfold CallF callFunc
  rw [hwp_bind']
  show hwp P (match P.funcs[f]? with
    | none => stuck "call: no such function"
    | some fn =>
      if fn.name == "runtime.NumGoroutine" then pure .numGoroutine
      else if fn.body.isNone then do
        mark (.extern f)
        if let some e := Extern.findNext fn then return ← e args.toArray
        match Extern.find fn with
        | some e => pure (.value (← e args.toArray))
        | none =>
          if fn.name.endsWith ".init" && !fn.name.startsWith "(" && !fn.name.startsWith "gosem." then pure (.value (.tuple #[]))
          else unsupported (.extern fn.name)
      else pure (.enter f args.toArray)) H (fun nx H' => match nx with
    | .value v => R v H'
    | .enter f xs => HCalls P f xs H' R E
    | _ => False) (fun v H' => E [{ v, recovered := false }] H')
  rw [hf]
  simp only [hm, hb, Bool.false_eq_true, if_false]
  exact h
theorem app3 {α : Type} {a b c : List α} {i : Nat} : (a ++ b ++ c)[i]? = if i < a.length then a[i]? else if i < a.length + b.length then b[i - a.length]? else c[i - a.length - b.length]? := by
  by_cases h1 : i < a.length
  · rw [if_pos h1, List.append_assoc, List.getElem?_append_left h1]
  · rw [if_neg h1, List.append_assoc, List.getElem?_append_right (by omega)]
    by_cases h2 : i < a.length + b.length
    · rw [if_pos h2, List.getElem?_append_left (by omega)]
    · rw [if_neg h2, List.getElem?_append_right (by omega)]
theorem callF_of_hcalls2 {P : Program} {f : FuncId} {fn : Func} {c : Code} {args : List Value} {H : Heap} {R : Value → Heap → Prop} {E : List PanicEntry → Heap → Prop} (hf : P.funcs[f]? = some fn) (hb : fn.body = some c)
    (hm : (fn.name == "runtime.NumGoroutine") = false) (h : HCalls P f args.toArray H R E) : CallF P f args H R E := callF_of_hcalls hf (by rw [hb]; rfl) hm h
theorem sort_spec {H : Heap} {v : Value} {xs : List Int} (h : Vec H 3 1 v (xs.map iv)) (hl : ∀ x ∈ xs, litB x = true) (hlen : xs.length ≤ 1000000) :
    CallF Tryz.prog 54 [v, .func (.func 55) #[] #[]] H (fun r H' => r = .tuple #[] ∧ Fr (own v) H H' ∧ ∃ ys : List Int, Vec H' 3 1 v (ys.map iv) ∧ ys.Perm xs ∧ ys.Pairwise leN) NoP := by
  refine callF_of_hcalls2 Tryz.func54 rfl (by decide) ?_
  intro w hw
  rcases h.ex with ⟨rfl, hnil⟩ | ⟨b, len, cap, pre, rest, rfl, hb, h2, h3, h4⟩
  · rw [List.map_eq_nil_iff] at hnil
    subst hnil
    have hS := AnyF.slices_SortFunc_none (P := Tryz.prog) (ρ := Tryz.sortL_ren) { Tryz.sortL with } none 0 (.func (.func 55) #[] #[]) w
    change Calls Tryz.prog 54 _ _ _ at hS
    refine hS.mono ?_
    rintro e w' ⟨rfl, rfl⟩
    subst hw
    exact ⟨Rest.refl _, rfl, Fr.refl _ _, [], Vec.nil, List.Perm.refl _, List.Pairwise.nil⟩
  · have hlen2 : len = xs.length := by simpa using h2.symm
    subst hlen2
    have hrng : ∀ x ∈ xs, -100000 ≤ x ∧ x ≤ 100000 := by
      intro x hx
      have := hl x hx
      unfold litB at this
      simp only [decide_eq_true_eq] at this
      exact this.2
    obtain ⟨ds, hds⟩ : ∃ ds : List Lt, ds.map (·.1) = xs := by
      refine ⟨xs.pmap (fun x h => ⟨x, h⟩) hrng, ?_⟩
      rw [List.map_pmap]
      simp
    have hdl : ds.length = xs.length := by rw [← hds]; simp
    have eg : ∀ args w, (callFunc 55 args).run Tryz.prog w = .ok (.enter 55 args) w := enters_of Tryz.func55 (by kernel_rfl) rfl
    have hH : Sort.Holds encL w b pre.length ds.toArray := by
      intro j hj
      have hj' : j < ds.length := by simpa using hj
      have hx : xs[j]? = some ds[j].1 := by rw [← hds]; simp [hj']
      have hc := blk_int hb hx
      have hf := hb.frozen (pre.length + j)
      subst hw
      refine ⟨?_, hf⟩
      have e : ds.toArray[j]! = ds[j] := by simp [hj']
      rw [e]; exact hc
    have hS := Any.slices_SortFunc_total Tryz.sortL encL (fun _ => rfl) cfN swoN 55 #[] b pre.length cap ds.toArray w eg (CmpReads.lays (fun m os dk _ x y => cmp_calls x y _)) hH (by rw [hw]; exact hb.lt) (by simp; omega)
      (fun x y h1 h2 => by
        rw [ltOf_cfN] at h1 h2
        simp only [decide_eq_false_iff_not] at h1 h2
        refine Subtype.ext ?_
        unfold ltN at h1 h2; omega)
    have hsz : ds.toArray.size = xs.length := by simp [hdl]
    rw [hsz] at hS
    change Calls Tryz.prog 54 _ _ _ at hS
    refine hS.mono ?_
    rintro e w' ⟨rfl, nn, os, rfl⟩
    refine ⟨⟨rfl, rfl, rfl⟩, rfl, ?_⟩
    generalize hms : (ds.toArray.toList.mergeSort fun x y => !(ltOf cfN) y x) = ms
    have hperm : ms.Perm ds := by rw [← hms]; simpa using List.mergeSort_perm ds _
    have hsort : ms.Pairwise (fun x y => leN x.1 y.1) := by
      have h1 := List.pairwise_mergeSort (le := fun x y : Lt => !(ltOf cfN) y x) (fun a b c h1 h2 => by
        rw [ltOf_cfN] at *
        simp only [Bool.not_eq_true', decide_eq_false_iff_not] at *
        unfold ltN at *; omega) (fun a b => by
        rw [ltOf_cfN, ltOf_cfN]
        simp only [Bool.or_eq_true, Bool.not_eq_true', decide_eq_false_iff_not]
        unfold ltN; omega) ds
      have hms' : ds.mergeSort (fun x y => !(ltOf cfN) y x) = ms := by rw [← hms]
      rw [hms'] at h1
      refine h1.imp fun {x y} h => ?_
      rw [ltOf_cfN] at h
      simp only [Bool.not_eq_true', decide_eq_false_iff_not] at h
      unfold leN ltN at *; omega
    have hml : ms.length = xs.length := by rw [hperm.length_eq, hdl]
    have hheap : (sortWorld encL w b pre.length nn ms.toArray os).heap = H.modify b (Sort.onCells (Sort.putCells encL pre.length ms.toArray)) ++ os := by
      rw [← hw]; rfl
    have hb' : H[b]? = some (.cells (pre ++ xs.map iv ++ rest).toArray 3 (0, 0)) := hb
    have hput : Sort.putCells encL pre.length ms.toArray (pre ++ xs.map iv ++ rest).toArray = (pre ++ (ms.map (·.1)).map iv ++ rest).toArray := by
      apply Array.ext_getElem?
      intro i
      unfold Sort.putCells
      rw [Array.getElem?_mapIdx]
      rw [List.getElem?_toArray, List.getElem?_toArray, app3, app3]
      simp only [List.length_map, hml, List.size_toArray]
      by_cases h1 : i < pre.length
      · rw [if_pos h1, if_pos h1]
        have hc : ¬ (pre.length ≤ i ∧ i < pre.length + xs.length) := by omega
        simp only [if_neg hc]
        cases pre[i]? <;> rfl
      · rw [if_neg h1, if_neg h1]
        by_cases h2 : i < pre.length + xs.length
        · rw [if_pos h2, if_pos h2]
          have hc : pre.length ≤ i ∧ i < pre.length + xs.length := by omega
          have hm1 : i - pre.length < xs.length := by omega
          have hm2 : i - pre.length < ms.length := by omega
          simp only [if_pos hc, List.getElem?_map, List.getElem?_eq_getElem hm1, List.getElem?_eq_getElem hm2, Option.map_some]
          have e : ms.toArray[i - pre.length]! = ms[i - pre.length] := by simp [hm2]
          rw [e]; rfl
        · rw [if_neg h2, if_neg h2]
          have hc : ¬ (pre.length ≤ i ∧ i < pre.length + xs.length) := by omega
          simp only [if_neg hc]
          cases rest[i - pre.length - xs.length]? <;> rfl
    have hf : Fr [b] H (sortWorld encL w b pre.length nn ms.toArray os).heap := by
      rw [hheap]
      refine ⟨by simp, fun q hq hF => ?_⟩
      rw [Array.getElem?_append_left (by simpa using hq), Array.getElem?_modify, if_neg (by simp at hF; exact fun e => hF e.symm)]
    have hb2 : Blk (sortWorld encL w b pre.length nn ms.toArray os).heap b 3 (pre ++ (ms.map (·.1)).map iv ++ rest) := by
      unfold Blk
      rw [hheap, Array.getElem?_append_left (by simpa using hb.lt), Array.getElem?_modify, if_pos rfl, hb', ← hput]
      rfl
    refine ⟨hf, ms.map (·.1), ⟨.inr ⟨b, xs.length, cap, pre, rest, rfl, hb2, by simp [hml], h3, h4⟩⟩, ?_, ?_⟩
    · rw [← hds]; exact hperm.map _
    · rw [List.pairwise_map]; exact hsort
end Go.Proofs.YtofooamimiijlaaGreat

namespace Go.Proofs.YtofooamimiijlaaGreat
open Go.HL HM Go.Sat
set_option maxRecDepth 10000
set_option linter.unusedSimpArgs false
set_option linter.unusedVariables false

section
variable {H : Heap}
theorem cLit_spec {x : Int} : CallF Tryz.prog 52 [iv x] H (fun v H' => v = .bool (litB x) ∧ H' = H) NoP := by
  unfold litB
  refine callF_of Tryz.func52 rfl Tryz.ntmps52 Tryz.results52 (by decide) rfl ?_
  by_cases h0 : x = 0
  · simp (disch := omega) only [go_sem, ↓cw_block, dsB_of]
    exact fin ⟨by simp [h0], rfl⟩
  · by_cases h1 : -100000 ≤ x
    · by_cases h2 : x ≤ 100000
      · simp (disch := omega) only [go_sem, ↓cw_block, dsB_of]
        exact fin ⟨by simp [h0, h1, h2], rfl⟩
      · simp (disch := omega) only [go_sem, ↓cw_block, dsB_of]
        exact fin ⟨by simp [h0, h1, h2], rfl⟩
    · simp (disch := omega) only [go_sem, ↓cw_block, dsB_of]
      exact fin ⟨by simp [h0, h1], rfl⟩
theorem cRight1_spec {x : Int} : CallF Tryz.prog 51 [iv x] H (fun v H' => v = .bool (!litB x) ∧ H' = H) NoP := by
  refine callF_of Tryz.func51 rfl Tryz.ntmps51 Tryz.results51 (by decide) rfl ?_
  simp (disch := omega) only [go_sem, ↓cw_block, dsB_of]
  refine call_to cLit_spec ?_
  rintro v H2 ⟨rfl, rfl⟩
  simp (disch := omega) only [go_sem, ↓cw_block, dsB_of]
  exact fin ⟨rfl, rfl⟩
theorem cRight_spec {a : Option Addr} {xs : List Int} {c : Nat} (hc : Rn H a xs) (hlen : xs.length ≤ 1000000) : CallF Tryz.prog 33 [.slice a xs.length c] H (fun v H' => v = .bool (xs.all litB) ∧ H' = H) NoP := by
  refine callF_of Tryz.func33 rfl Tryz.ntmps33 Tryz.results33 (by decide) rfl ?_
  simp (disch := omega) only [go_sem, ↓cw_block, dsB_of]
  refine call_to (contains_spec (cap := []) (P := fun x => !litB x) hc (by omega) (fun x _ => cRight1_spec)) ?_
  rintro v H2 ⟨rfl, rfl⟩
  simp (disch := omega) only [go_sem, ↓cw_block, dsB_of]
  refine fin ⟨?_, rfl⟩
  rw [List.all_eq_not_any_not]
/-- Numbers that can be read, as a slice. -/
structure IL (H : Heap) (v : Value) (xs : List Int) : Prop where
  ex : ∃ a c, v = .slice a xs.length c ∧ Rn H a xs
theorem IL.of_vec {e : Nat} {v : Value} {xs : List Int} (h : Vec H e 1 v (xs.map iv)) : IL H v xs := by
  rcases h.ex with ⟨rfl, e2⟩ | ⟨b, len, cap, pre, rest, rfl, hb, h2, h3, h4⟩
  · rw [List.map_eq_nil_iff] at e2
    subst e2
    exact ⟨none, 0, rfl, fun i x hx => by simp at hx⟩
  · have : len = xs.length := by simpa using h2.symm
    subst this
    exact ⟨_, cap, rfl, fun i x hx => ⟨b, pre.length, rfl, blk_int hb hx⟩⟩
theorem Rn.src {a : Option Addr} {xs : List Int} {c : Nat} (h : Rn H a xs) : srcCells H 1 xs.length (.slice a xs.length c) = some (xs.map iv) := by
  cases xs with
  | nil => cases a <;> rfl
  | cons x xs =>
    obtain ⟨b, o, rfl, _⟩ := h 0 x rfl
    show cellsH (cellH H) ⟨b, o, none⟩ 0 ((x :: xs).length * 1) = some ((x :: xs).map iv)
    have hl : (x :: xs).length * 1 = ((x :: xs).map iv).length := by simp
    rw [hl]
    refine cellsH_at _ _ 0 fun j hj => ?_
    have hj' : j < (x :: xs).length := by simpa using hj
    obtain ⟨b', o', e, hc⟩ := h j _ (List.getElem?_eq_getElem hj')
    simp only [Option.some.injEq, Addr.mk.injEq, and_true] at e
    obtain ⟨rfl, rfl⟩ := e
    rw [Nat.add_zero, hc]
    exact congrArg some (by rw [List.getElem_map])
theorem Rn.frame {H' : Heap} {F : List Nat} {a : Option Addr} {xs : List Int} (h : Rn H a xs) (hf : Fr F H H') (hd : ∀ b o, a = some ⟨b, o, none⟩ → b ∉ F) : Rn H' a xs := fun i x hx => by
  obtain ⟨b, o, e, hc⟩ := h i x hx
  exact ⟨b, o, e, hf.cell' hc (hd b o e)⟩
theorem compact_nil : CallF Tryz.prog 57 [.slice none 0 0] H (fun v H' => v = .slice none 0 0 ∧ H' = H) NoP := by
  refine callF_of Tryz.func57 rfl Tryz.ntmps57 Tryz.results57 (by decide) rfl ?_
  simp (disch := omega) only [go_sem, ↓cw_block, dsB_of]
  exact fin ⟨rfl, rfl⟩
/-- The normal form of a clause. -/
structure NF (xs zs : List Int) (idle : Bool) : Prop where
  str : zs.Pairwise ltN
  mem : ∀ x, x ∈ zs ↔ x ∈ xs
  le : zs.length ≤ xs.length
  idle : idle = true ↔ ∃ x ∈ zs, -x ∈ zs
theorem cNorm_spec {a : Option Addr} {xs : List Int} {c : Nat} (hr : Rn H a xs) (hl : ∀ x ∈ xs, litB x = true) (hlen : xs.length ≤ 1000000) :
    CallF Tryz.prog 35 [.slice a xs.length c] H (fun v H' => Fr [] H H' ∧ ∃ w zs idle, v = .tuple #[w, .bool idle] ∧ Vec H' 3 1 w (zs.map iv) ∧ (∀ b ∈ own w, H.size ≤ b) ∧ NF xs zs idle) NoP := by
  have hall : xs.all litB = true := by rw [List.all_eq_true]; exact hl
  refine callF_of Tryz.func35 rfl Tryz.ntmps35 Tryz.results35 (by decide) rfl ?_
  simp (disch := omega) only [go_sem, ↓cw_block, dsB_of]
  refine call_to (cRight_spec hr hlen) ?_
  rintro v H1 ⟨rfl, rfl⟩
  rw [hall]
  obtain ⟨G, hG⟩ : ∃ G, H1.push (.cells (List.replicate xs.length (iv 0)).toArray 3) = G := ⟨_, rfl⟩
  have f0 : Fr [] H1 G := by rw [← hG]; exact Fr.push
  have vG : Vec G 3 1 (.slice (some ⟨H1.size, 0, none⟩) 0 xs.length) [] := ⟨.inr ⟨H1.size, 0, xs.length, [], List.replicate xs.length (iv 0), rfl, by rw [← hG]; exact Blk.new rfl, rfl, by simp, by omega⟩⟩
  have hone : ∀ u ∈ xs.map iv, oneC u = true := by
    intro u hu
    obtain ⟨y, _, rfl⟩ := List.mem_map.1 hu
    rfl
  simp (disch := omega) only [go_sem, ↓cw_block, dsB_of, hG]
  refine app_vec (n := xs.length) (new := xs.map iv) T.el26 rfl vG rfl (Rn.src (hr.frame f0 (by simp))) T.el26.under (by simp) hone (by simp) (by intro a' l c e; simp only [Value.slice.injEq] at e; obtain ⟨_, rfl, _⟩ := e; omega) ?_
  intro v' H2 g1 (g2 : Fr _ G H2) (g3 : ∀ b ∈ own v', b ∈ own (.slice (some ⟨H1.size, 0, none⟩) 0 xs.length) ∨ G.size ≤ b) g4
  have hfr2 : ∀ b ∈ own v', H1.size ≤ b := by
    intro b hb
    rcases g3 b hb with h | h
    · simp only [own, List.mem_singleton] at h; omega
    · have := f0.size; omega
  have f2 : Fr [] H1 H2 := ⟨Nat.le_trans f0.size g2.size, fun q hq _ => by
    rw [g2.same q (by have := f0.size; omega) (by simp only [own, List.mem_singleton]; omega), f0.same q hq (by simp)]⟩
  have g1' : Vec H2 3 1 v' (xs.map iv) := by simpa using g1
  simp (disch := omega) only [go_sem, ↓cw_block, dsB_of]
  refine call_to (sort_spec g1' hl hlen) ?_
  rintro r H3 ⟨rfl, f3, ys, g5, hperm, hsort⟩
  have hyl : ys.length = xs.length := hperm.length_eq
  have fine3 : Fr [] H1 H3 := ⟨Nat.le_trans f2.size f3.size, fun q hq _ => by
    rw [f3.same q (by have := f2.size; omega) (fun e => by have := hfr2 q e; omega), f2.same q hq (by simp)]⟩
  refine Hush.out ?_
  -- the part behind Compact
  have rest : ∀ (zs : List Int) (H4 : Heap) (w : Value), Fr [] H1 H4 → Vec H4 3 1 w (zs.map iv) → (∀ b ∈ own w, H1.size ≤ b) → zs.Pairwise ltN → (∀ x, x ∈ zs ↔ x ∈ ys) → zs.length ≤ ys.length → ∀ idle, (idle = true ↔ ∃ (i : Nat) (y : Int), zs[i]? = some y ∧ zs[i + 1]? = some (-y)) → 
      (Fr [] H1 H4 ∧ ∃ w' zs idle', Value.tuple #[w, .bool idle] = .tuple #[w', .bool idle'] ∧ Vec H4 3 1 w' (zs.map iv) ∧ (∀ b ∈ own w', H1.size ≤ b) ∧ NF xs zs idle') := by
    intro zs H4 w h1 h2 h3 h4 h5 h6 idle h7
    refine ⟨h1, w, zs, idle, rfl, h2, h3, h4, fun x => (h5 x).trans hperm.mem_iff, by omega, h7.trans ⟨?_, ?_⟩⟩
    · rintro ⟨i, y, e1, e2⟩
      exact ⟨y, List.mem_of_getElem? e1, List.mem_of_getElem? e2⟩
    · rintro ⟨x, e1, e2⟩
      have := hl x (hperm.mem_iff.1 ((h5 x).1 e1))
      unfold litB at this
      simp only [decide_eq_true_eq] at this
      exact side h4 e1 e2 this.1
  rcases g5.ex with ⟨rfl, hnil⟩ | ⟨b, len, cap, pre, rst, rfl, hb, hl2, hl3, hl4⟩
  · rw [List.map_eq_nil_iff] at hnil
    subst hnil
    refine ⟨?_⟩
    simp (disch := omega) only [go_sem, ↓cw_block, dsB_of]
    refine call_to compact_nil ?_
    rintro r H4 ⟨rfl, rfl⟩
    simp (disch := omega) only [go_sem, ↓cw_block, dsB_of]
    refine loop_by (fun j ρ H5 => (ρ.get 4 = .slice none 0 0 ∧ ρ.get 5 = iv 1 ∧ ρ.ds = []) ∧ H5 = H4) (k := 0) ?_ ?_
    · exact ⟨by simp (disch := omega) only [go_sem, ↓cw_block, dsB_of], rfl⟩
    · rintro _ ρ H5 ⟨⟨r4, r5, rd⟩, rfl⟩
      simp (disch := omega) only [go_sem, ↓cw_block, dsB_of, r4, r5, rd, dsB_of]
      exact fin (rest [] _ _ fine3 Vec.nil (by simp [own]) List.Pairwise.nil (fun x => Iff.rfl) (Nat.le_refl _) false ⟨fun h => (by cases h), fun ⟨i, y, h, _⟩ => by simp at h⟩)
  · have hlen2 : len = ys.length := by simpa using hl2.symm
    subst hlen2
    have hsz := hfr2 b (by simp [own])
    refine ⟨?_⟩
    simp (disch := omega) only [go_sem, ↓cw_block, dsB_of]
    refine call_to (compact_spec hb hl4 (by simpa using hl3) hsort (by omega)) ?_
    rintro r H4 ⟨f4, zs, rfl, v4, hstr, hmem, hzl⟩
    have f14 : Fr [] H1 H4 := ⟨Nat.le_trans fine3.size f4.size, fun q hq _ => by
      rw [f4.same q (by have := fine3.size; omega) (by simp only [List.mem_singleton]; omega), fine3.same q hq (by simp)]⟩
    simp (disch := omega) only [go_sem, ↓cw_block, dsB_of]
    have hrn : Rn H4 (some ⟨b, pre.length, none⟩) zs := by
      obtain ⟨a', c', e, h⟩ := (IL.of_vec v4).ex
      simp only [Value.slice.injEq] at e
      rw [e.1]; exact h
    have hpos : ∀ j y, zs[j]? = some y → litB y = true := fun j y hy => hl y (hperm.mem_iff.1 ((hmem y).1 (List.mem_of_getElem? hy)))
    refine loop_by (fun j ρ H5 => ∃ i : Nat, j = zs.length - i ∧ 1 ≤ i ∧ (ρ.get 4 = .slice (some ⟨b, pre.length, none⟩) zs.length cap ∧ ρ.get 5 = iv i ∧ ρ.ds = []) ∧ H5 = H4 ∧ ∀ (j : Nat) y, j + 1 < i → zs[j]? = some y → zs[j + 1]? ≠ some (-y)) (k := zs.length - 1) ?_ ?_
    · exact ⟨1, rfl, Nat.le_refl _, by simp (disch := omega) only [go_sem, ↓cw_block, dsB_of]; rfl, rfl, fun j y hj => by omega⟩
    · rintro _ ρ H5 ⟨i, rfl, h1i, ⟨r4, r5, rd⟩, rfl, hno⟩
      by_cases hie : zs.length ≤ i
      · simp (disch := omega) only [go_sem, ↓cw_block, dsB_of, r4, r5, rd, dsB_of]
        refine fin (rest zs _ _ f14 v4 (fun q hq => by simp only [own, List.mem_singleton] at hq; subst hq; exact hsz) hstr hmem hzl false ⟨fun h => (by cases h), ?_⟩)
        rintro ⟨j, y, e1, e2⟩
        have := (List.getElem?_eq_some_iff.1 e2).1
        exact absurd e2 (hno j y (by omega) e1)
      · obtain ⟨x, hx⟩ : ∃ x, zs[i]? = some x := ⟨_, List.getElem?_eq_getElem (by omega)⟩
        obtain ⟨y, hy⟩ : ∃ y, zs[i - 1]? = some y := ⟨_, List.getElem?_eq_getElem (by omega)⟩
        obtain ⟨b1, o1, e1, kx⟩ := hrn i x hx
        obtain ⟨b2, o2, e2, ky⟩ := hrn (i - 1) y hy
        simp only [Option.some.injEq, Addr.mk.injEq, and_true] at e1 e2
        obtain ⟨rfl, rfl⟩ := e1
        obtain ⟨e21, e22⟩ := e2
        rw [← e21, ← e22] at ky
        have hly := hpos _ y hy
        unfold litB at hly
        simp only [decide_eq_true_eq] at hly
        have hi1 : (i : Int) - 1 = ((i - 1 : Nat) : Int) := by omega
        have hi2 : (i : Int) + 1 = ((i + 1 : Nat) : Int) := by omega
        simp (disch := omega) only [go_sem, ↓cw_block, dsB_of, r4, r5, rd]
        refine draw0 (lk [(0, true), (1, true), (2, true), (3, true), (4, true), (5, true), (6, true), (7, true), (8, true), (9, true), (10, true)] .fin) T.mixed ?_
        simp (disch := omega) only [go_sem, ↓cw_block, dsB_of, r4, r5, rd, kx, ky, hi1]
        refine cond_dec (fun hb2 => ?_) (fun hb2 => ?_)
        · simp (disch := omega) only [go_sem, ↓cw_block, dsB_of, r4, r5, rd, dsB_of]
          refine fin (rest zs _ _ f14 v4 (fun q hq => by simp only [own, List.mem_singleton] at hq; subst hq; exact hsz) hstr hmem hzl true ⟨fun _ => ⟨i - 1, y, hy, ?_⟩, fun _ => rfl⟩)
          rw [show i - 1 + 1 = i by omega, hx, hb2]
        · simp (disch := omega) only [go_sem, ↓cw_block, dsB_of, r4, r5, rd]
          refine fin ⟨zs.length - (i + 1), by omega, i + 1, rfl, by omega, by simp (disch := omega) only [go_sem, ↓cw_block, dsB_of, r4, r5, rd, hi2], rfl, fun j z hj hz => ?_⟩
          by_cases hji : j + 1 = i
          · have : j = i - 1 := by omega
            subst this
            rw [hy] at hz
            have := Option.some.inj hz
            subst this
            rw [show i - 1 + 1 = i by omega, hx]
            intro e
            exact hb2 (Option.some.inj e)
          · exact hno j z (by omega) hz
end
end Go.Proofs.YtofooamimiijlaaGreat

namespace Go.HL
/-- A map with a key set. -/
def mset : List (Int × Int) → Int → Int → List (Int × Int)
  | [], n, v => [(n, v)]
  | x :: r, n, v => if x.1 = n then (n, v) :: r else x :: mset r n v
theorem mget_cons {x : Int × Int} {r : List (Int × Int)} {k : Int} : mget (x :: r) k = if x.1 = k then some x.2 else mget r k := by
  unfold mget
  by_cases h : x.1 = k
  · simp [h]
  · have : (x.1 == k) = false := by simp [h]
    simp [this, h]
theorem mget_mset (k n v : Int) : ∀ kvs : List (Int × Int), mget (mset kvs n v) k = if k = n then some v else mget kvs k
  | [] => by
    unfold mset
    rw [mget_cons]
    by_cases h : n = k
    · simp [h]
    · simp [h, Ne.symm h]
  | x :: r => by
    unfold mset
    by_cases hx : x.1 = n
    · rw [if_pos hx, mget_cons, mget_cons]
      by_cases h : n = k
      · simp [h]
      · have : ¬ x.1 = k := by rw [hx]; exact h
        simp [h, Ne.symm h, this]
    · rw [if_neg hx, mget_cons, mget_cons, mget_mset k n v r]
      by_cases h : x.1 = k
      · have : ¬ k = n := by rw [← h]; exact hx
        simp [h, this]
      · simp [h]
theorem mset_new {n v : Int} : ∀ {kvs : List (Int × Int)}, mget kvs n = none → mset kvs n v = kvs ++ [(n, v)]
  | [], _ => rfl
  | x :: r, h => by
    rw [mget_cons] at h
    unfold mset
    by_cases hx : x.1 = n
    · rw [if_pos hx] at h; cases h
    · rw [if_neg hx] at h
      rw [if_neg hx, mset_new h]
      rfl
theorem mset_len (n v : Int) : ∀ kvs : List (Int × Int), (mset kvs n v).length ≤ kvs.length + 1
  | [] => by simp [mset]
  | x :: r => by
    unfold mset
    split
    · simp
    · have := mset_len n v r
      simp only [List.length_cons]; omega
section
variable {P : Program} {H : Heap}
theorem findNow_set {k v : Int} : ∀ (es : List MapEntry) (kvs : List (Int × Int)) (i : Nat) (p : Nat × Value), es.map (fun e => (e.key, e.val)) = kvs.map ivp →
    Instr.findNow (.int .i64) (.int .i64 k) es i = some (some p) → ∃ j, p.1 = i + j ∧ (es[j]?).map (·.key) = some (.int .i64 k) ∧ (es.modify j fun e => { e with key := .int .i64 k, val := .int .i64 v }).map (fun e => (e.key, e.val)) = (mset kvs k v).map ivp := by
  intro es
  induction es with
  | nil => intro kvs i p h h2; simp [Instr.findNow] at h2
  | cons e es ih =>
    intro kvs i p h h2
    cases kvs with
    | nil => simp at h
    | cons x kvs =>
      simp only [List.map_cons, List.cons.injEq, Prod.mk.injEq] at h
      obtain ⟨⟨h1, h3⟩, h4⟩ := h
      simp only [Instr.findNow, h1, Instr.sameNow, if_true] at h2
      by_cases hk : k = x.1
      · subst hk
        simp only [beq_self_eq_true, Option.some.injEq] at h2
        subst h2
        refine ⟨0, rfl, by simp [h1], ?_⟩
        unfold mset
        simp [h4]
      · have e1 : (k == x.1) = false := by simp [hk]
        simp only [e1] at h2
        obtain ⟨j, g1, g2, g3⟩ := ih kvs (i + 1) p h4 h2
        refine ⟨j + 1, by omega, by simpa using g2, ?_⟩
        unfold mset
        rw [if_neg (Ne.symm hk)]
        simp only [List.modify_succ_cons, List.map_cons, g3, h1, h3]
/-- A key is set, be it there or not. -/
theorem set_ints {t k e r : Nat} {kvs : List (Int × Int)} {n v : Int} {K : Heap → Prop} {E : Value → Heap → Prop} (ht : P.underlying t = some (.map k e)) (hk : P.underlying k = some (.int .i64)) (h : MapR H r (kvs.map ivp))
    (hK : ∀ H', MapR H' r ((mset kvs n v).map ivp) → Fr [r] H H' → K H') : @mapB P t (.map (some r)) (.int .i64 n) (.int .i64 v) ⟨H⟩ ⟨K⟩ ⟨E⟩ := by
  cases hn : mget kvs n with
  | none =>
    refine put_ints ht hk h hn fun H' h1 h2 => hK H' ?_ h2
    rw [mset_new hn]
    simpa using h1
  | some old =>
    obtain ⟨es, c, h1, h2⟩ := h
    obtain ⟨o, ho, hm⟩ := findNow_ints (k := n) es.toList kvs 0 h2
    rw [hn] at hm
    cases o with
    | none => simp at hm
    | some p =>
      obtain ⟨j, g1, g2, g3⟩ := findNow_set (v := v) es.toList kvs 0 p h2 ho
      rw [Nat.zero_add] at g1
      show hwp P (Instr.mapUpdate t (.map (some r)) (.int .i64 n) (.int .i64 v)) H _ _
      unfold Instr.mapUpdate
      refine hwp_qbind (qrun_underlying ht H) ?_
      simp only
      have : qrun P (getObj r) H = some (.map es c) := qrun_getObj h1
      refine hwp_qbind this ?_
      simp only
      refine hwp_qbind (checkKey_int hk) ?_
      have e2 : qrun P (Instr.findKey k (.int .i64 n) es.toList) H = some (some p) := by
        unfold Instr.findKey
        rw [qrun_bind', qrun_underlying hk, Option.bind_some]
        simp only [ho]
        rfl
      refine hwp_qbind e2 ?_
      obtain ⟨pi, pvv⟩ := p
      simp only at g1
      subst g1
      simp only
      have g2' : ((es[pi]?).map (·.key)).getD (.int .i64 n) = .int .i64 n := by
        have : (es.toList[pi]?).map (·.key) = some (.int .i64 n) := g2
        rw [Array.getElem?_toList] at this
        rw [this]; rfl
      have e3 : qrun P (Instr.keyThatStays (((es[pi]?).map (·.key)).getD (.int .i64 n)) (.int .i64 n)) H = some (.int .i64 n) := by
        rw [g2']
        unfold Instr.keyThatStays
        rw [if_pos (by simp [Instr.sameBits])]
        rfl
      refine hwp_qbind e3 ?_
      show hwp P (setObj r (.map (es.modify pi fun e => { e with key := .int .i64 n, val := .int .i64 v }) c)) H _ _
      simp only [setObj, hwp, h1]
      refine hK _ ⟨es.modify pi fun e => { e with key := .int .i64 n, val := .int .i64 v }, c, ?_, ?_⟩ (Fr.setObj (by simp))
      · have hl : r < H.size := by
          rcases Nat.lt_or_ge r H.size with h | h
          · exact h
          · rw [Array.getElem?_eq_none h] at h1; simp at h1
        rw [Array.getElem?_setIfInBounds]
        simp [hl]
      · rw [← g3]
        simp
end
end Go.HL
namespace Go.Proofs.YtofooamimiijlaaGreat
open Go.HL HM Go.Sat
set_option maxRecDepth 10000
set_option linter.unusedSimpArgs false
set_option linter.unusedVariables false

section
variable {H : Heap} {ow : Nat → Nat} {p n : Nat} {k : Bk} {f : Cf}
def litI (x : Nat) : Int := if x % 2 = 1 then -((x / 2 : Nat) : Int) else ((x / 2 : Nat) : Int)
theorem sLiteral_spec {x : Nat} (hx : x ≤ 1000000) : CallF Tryz.prog 102 [iv x] H (fun v H' => v = iv (litI x) ∧ H' = H) NoP := by
  unfold litI
  have hh := half x
  refine callF_of Tryz.func102 rfl Tryz.ntmps102 Tryz.results102 (by decide) rfl ?_
  by_cases h : x % 2 = 1
  · have : (x : Int) % 2 = 1 := by omega
    simp (disch := omega) only [go_sem, ↓cw_block, dsB_of, this, hh]
    exact fin ⟨by rw [if_pos h], rfl⟩
  · have : ¬ (x : Int) % 2 = 1 := by omega
    simp (disch := omega) only [go_sem, ↓cw_block, dsB_of, this, hh]
    exact fin ⟨by rw [if_neg h], rfl⟩
def codeN (l : Int) : Nat := if l < 0 then (-2 * l + 1).toNat else (2 * l).toNat
theorem sCode_spec {l : Int} (hl : -1000000 ≤ l ∧ l ≤ 1000000) : CallF Tryz.prog 58 [iv l] H (fun v H' => v = iv (codeN l : Nat) ∧ H' = H) NoP := by
  unfold codeN
  refine callF_of Tryz.func58 rfl Tryz.ntmps58 Tryz.results58 (by decide) rfl ?_
  by_cases h : l < 0
  · simp (disch := omega) only [go_sem, ↓cw_block, dsB_of]
    exact fin ⟨by rw [if_pos h, Int.toNat_of_nonneg (by omega)], rfl⟩
  · simp (disch := omega) only [go_sem, ↓cw_block, dsB_of]
    exact fin ⟨by rw [if_neg h, Int.toNat_of_nonneg (by omega)], rfl⟩
end
end Go.Proofs.YtofooamimiijlaaGreat

namespace Go.Proofs.YtofooamimiijlaaGreat
open Go.HL HM Go.Sat
set_option maxRecDepth 10000
set_option linter.unusedSimpArgs false
set_option linter.unusedVariables false

section
variable {H : Heap} {ow : Nat → Nat} {p n : Nat} {k : Bk} {f : Cf}
/-- On how many levels literals are: some number. -/
theorem sSpread_spec (h : RM H ow p n k f) (hr : Rl n f) (hi : Inv n f.s) (hn : n ≤ 1000) {lv : Value} {l : List Nat} (hv : Vec H 3 1 lv (nv l)) (hl : ∀ z ∈ l, isC n z ∧ (z ∈ f.tr ∨ neg z ∈ f.tr)) (hlen : l.length ≤ 1000000) :
    CallF Tryz.prog 76 [sp p, lv] H (fun v H' => Fr [] H H' ∧ ∃ q : Nat, v = iv q ∧ q ≤ l.length) NoP := by
  obtain ⟨a, c, rfl⟩ : ∃ a c, lv = .slice a l.length c := by
    obtain ⟨a, len, c, rfl, e⟩ := hv.len
    rw [nv_len, Nat.mul_one] at e; subst e
    exact ⟨a, c, rfl⟩
  obtain ⟨G, hG⟩ : ∃ G, H.push (.map #[] 0) = G := ⟨_, rfl⟩
  have f0 : Fr [] H G := by rw [← hG]; exact Fr.push
  have hm0 : MapR G H.size (([] : List (Int × Int)).map ivp) := by rw [← hG]; exact MapR.new
  refine callF_of Tryz.func76 rfl Tryz.ntmps76 Tryz.results76 (by decide) rfl ?_
  simp (disch := omega) only [go_sem, ↓cw_block, dsB_of]
  rw [hG]
  refine loop_by (fun j ρ H1 => ∃ (i : Nat) (kvs : List (Int × Int)), j = l.length - i ∧ i ≤ l.length ∧ (ρ.get 0 = sp p ∧ ρ.get 5 = .map (some H.size) ∧ ρ.get 9 = .slice a l.length c ∧ ρ.get 10 = iv l.length ∧ ρ.get 11 = iv i ∧ ρ.ds = []) ∧
    Fr [] H H1 ∧ MapR H1 H.size (kvs.map ivp) ∧ kvs.length ≤ i ∧ ∀ q v, mget kvs q = some v → 0 ≤ v ∧ v ≤ i) (k := l.length) ?_ ?_
  · exact ⟨0, [], rfl, by omega, by simp (disch := omega) only [go_sem, ↓cw_block, dsB_of], f0, hm0, Nat.le_refl _, fun q v hq => by simp [mget] at hq⟩
  · rintro _ ρ H1 ⟨i, kvs, rfl, hil, ⟨r0, r5, r9, r10, r11, rd⟩, f1, m1, hkl, hkv⟩
    by_cases hie : i = l.length
    · have hlm := len_map (P := Tryz.prog) Tryz.underlying56 m1
      rw [List.length_map] at hlm
      simp (disch := omega) only [go_sem, ↓cw_block, dsB_of, r0, r5, r9, r10, r11, rd, hlm, dsB_of]
      exact fin ⟨f1, kvs.length, rfl, by omega⟩
    · obtain ⟨z, hz⟩ : ∃ z, l[i]? = some z := ⟨_, List.getElem?_eq_getElem (by omega)⟩
      obtain ⟨hzc, hzt⟩ := hl z (List.mem_of_getElem? hz)
      obtain ⟨z1, z2, z3, z4⟩ := isC_lt hzc
      obtain ⟨b, o, cap, e, kz⟩ := vec_cell (hv.frame f1 (by simp)) (nv_get hz)
      simp only [Value.slice.injEq] at e
      obtain ⟨rfl, -, rfl⟩ := e
      have hm := h.out f1 (by simp)
      obtain ⟨L, hL, clv⟩ : ∃ L : Nat, L ≤ f.st.length ∧ cellH H1 ⟨k.bl, z / 2, none⟩ = some (iv L) := by
        rcases hzt with h1 | h1
        · obtain ⟨j, hj⟩ := List.getElem?_of_mem h1
          exact ⟨_, lev_le, hm.clvl hr hj⟩
        · obtain ⟨j, hj⟩ := List.getElem?_of_mem h1
          have := hm.clvl hr hj
          rw [neg_var] at this
          exact ⟨_, lev_le, this⟩
      have c10 : cellH H1 ⟨p, 10, none⟩ = some (sl k.bl (n + 1)) := hm.c 10
      have hh := half z
      have hi1 : (i : Int) + 1 = ((i + 1 : Nat) : Int) := by omega
      obtain ⟨val, hval, hv0⟩ : ∃ val : Int, ((mget kvs L).map (Value.int .i64)).getD (iv 0) = iv val ∧ 0 ≤ val ∧ val ≤ i := by
        cases hg : mget kvs L with
        | none => exact ⟨0, rfl, by omega, by omega⟩
        | some v => exact ⟨v, rfl, hkv _ _ hg⟩
      have hlk : qrun Tryz.prog (Instr.lookup 56 (.map (some H.size)) (iv L) false) H1 = some (iv val) := by
        rw [look_ints Tryz.underlying56 Tryz.underlying3 T.zero3 m1 L false, ← hval]; rfl
      simp (disch := omega) only [go_sem, ↓cw_block, dsB_of, r0, r5, r9, r10, r11, rd, kz, c10, hh, clv, hlk]
      refine set_ints Tryz.underlying56 Tryz.underlying3 m1 ?_
      intro H2 m2 f2
      simp (disch := omega) only [go_sem, ↓cw_block, dsB_of, r0, r5, r9, r10, r11, rd]
      refine fin ⟨l.length - (i + 1), by omega, i + 1, _, rfl, by omega, by simp (disch := omega) only [go_sem, ↓cw_block, dsB_of, r0, r5, r9, r10, r11, rd, hi1], ⟨Nat.le_trans f1.size f2.size, fun q hq _ => by rw [f2.same q (by have := f1.size; omega) (by simp only [List.mem_singleton]; omega), f1.same q hq (by simp)]⟩, m2, by have := mset_len (L : Int) (val + 1) kvs; omega, fun q v hq => ?_⟩
      rw [mget_mset] at hq
      split at hq
      · have := Option.some.inj hq; omega
      · have := hkv q v hq; omega
theorem litI_ok {x : Nat} (hx : isC n x) (hn : n ≤ 1000) : litB (litI x) = true := by
  unfold isC at hx
  unfold litB litI
  simp only [decide_eq_true_eq]
  split <;> omega
/-- Codes as a clause in its normal form. -/
theorem sText_spec (hn : n ≤ 1000) {lv : Value} {l : List Nat} (hv : Vec H 3 1 lv (nv l)) (hl : ∀ z ∈ l, isC n z) (hlen : l.length ≤ 1000) :
    CallF Tryz.prog 77 [hp p, lv] H (fun v H' => Fr [] H H' ∧ ∃ zs idle, Vec H' 3 1 v (zs.map iv) ∧ (∀ b ∈ own v, H.size ≤ b) ∧ NF (l.map litI) zs idle) NoP := by
  obtain ⟨a, c, rfl⟩ : ∃ a c, lv = .slice a l.length c := by
    obtain ⟨a, len, c, rfl, e⟩ := hv.len
    rw [nv_len, Nat.mul_one] at e; subst e
    exact ⟨a, c, rfl⟩
  obtain ⟨G, hG⟩ : ∃ G, H.push (.cells (List.replicate l.length (iv 0)).toArray 3) = G := ⟨_, rfl⟩
  have f0 : Fr [] H G := by rw [← hG]; exact Fr.push
  have vG : Vec G 3 1 (.slice (some ⟨H.size, 0, none⟩) 0 l.length) [] := ⟨.inr ⟨H.size, 0, l.length, [], List.replicate l.length (iv 0), rfl, by rw [← hG]; exact Blk.new rfl, rfl, by simp, by omega⟩⟩
  refine callF_of Tryz.func77 rfl Tryz.ntmps77 Tryz.results77 (by decide) rfl ?_
  simp (disch := omega) only [go_sem, ↓cw_block, dsB_of, hG]
  refine loop_by (fun j ρ H1 => ∃ (i : Nat) (wv : Value), j = l.length - i ∧ i ≤ l.length ∧ (ρ.get 5 = wv ∧ ρ.get 11 = .slice a l.length c ∧ ρ.get 12 = iv l.length ∧ ρ.get 13 = iv i ∧ ρ.ds = []) ∧
    Fr [] H H1 ∧ Vec H1 3 1 wv (((l.take i).map litI).map iv) ∧ ∀ b ∈ own wv, H.size ≤ b) (k := l.length) ?_ ?_
  · exact ⟨0, _, rfl, by omega, by simp (disch := omega) only [go_sem, ↓cw_block, dsB_of]; rfl, f0, by simpa using vG, by simp [own]⟩
  · rintro _ ρ H1 ⟨i, wv, rfl, hil, ⟨r5, r11, r12, r13, rd⟩, f1, v1, o1⟩
    by_cases hie : i = l.length
    · subst hie
      rw [List.take_length] at v1
      obtain ⟨a1, c1, e1, hrn⟩ := (IL.of_vec v1).ex
      rw [e1] at r5
      simp (disch := omega) only [go_sem, ↓cw_block, dsB_of, r5, r11, r12, r13, rd]
      refine call_to (cNorm_spec hrn (by
        intro x hx
        obtain ⟨z, hz, rfl⟩ := List.mem_map.1 hx
        exact litI_ok (hl z hz) hn) (by rw [List.length_map]; omega)) ?_
      rintro v H2 ⟨f2, w, zs, idle, rfl, v2, o2, hnf⟩
      simp (disch := omega) only [go_sem, ↓cw_block, dsB_of, r5, r11, r12, r13, rd, dsB_of]
      exact fin ⟨f1.trans f2, zs, idle, v2, fun b hb => by have := o2 b hb; have := f1.size; omega, hnf⟩
    · obtain ⟨z, hz⟩ : ∃ z, l[i]? = some z := ⟨_, List.getElem?_eq_getElem (by omega)⟩
      have hzc := hl z (List.mem_of_getElem? hz)
      obtain ⟨z1, z2, z3, z4⟩ := isC_lt hzc
      obtain ⟨b, o, cap, e, kz⟩ := vec_cell (hv.frame f1 (by simp)) (nv_get hz)
      simp only [Value.slice.injEq] at e
      obtain ⟨rfl, -, rfl⟩ := e
      have hi1 : (i : Int) + 1 = ((i + 1 : Nat) : Int) := by omega
      simp (disch := omega) only [go_sem, ↓cw_block, dsB_of, r5, r11, r12, r13, rd, kz]
      refine call_to (sLiteral_spec (x := z) (by omega)) ?_
      rintro v H2 ⟨rfl, rfl⟩
      simp (disch := omega) only [go_sem, ↓cw_block, dsB_of, r5, r11, r12, r13, rd]
      refine app_lit1 T.el26 rfl v1 rfl (by simp; omega) ?_
      intro v' H3 g1 g2 g3 g4
      simp (disch := omega) only [go_sem, ↓cw_block, dsB_of, r5, r11, r12, r13, rd]
      refine fin ⟨l.length - (i + 1), by omega, i + 1, v', rfl, by omega, by simp (disch := omega) only [go_sem, ↓cw_block, dsB_of, r5, r11, r12, r13, rd, hi1], ⟨Nat.le_trans f1.size g2.size, fun q hq _ => ?_⟩, ?_, fun q hq => ?_⟩
      · rw [g2.same q (by have := f1.size; omega) (fun e => by have := o1 q e; omega), f1.same q hq (by simp)]
      · have : ((l.take (i + 1)).map litI).map iv = ((l.take i).map litI).map iv ++ [iv (litI z)] := by
          rw [List.take_add_one, hz]; simp
        rw [this]; exact g1
      · rcases g3 q hq with h | h
        · exact o1 q h
        · have := f1.size; omega
end
end Go.Proofs.YtofooamimiijlaaGreat

namespace Go.Proofs.YtofooamimiijlaaGreat
open Go.HL HM Go.Sat
set_option maxRecDepth 10000
set_option linter.unusedSimpArgs false
set_option linter.unusedVariables false

section
variable {H : Heap} {ow : Nat → Nat} {p n : Nat} {k : Bk} {f : Cf} {G : List (List Nat)}
/-- A line that adds a clause. -/
theorem sAddL_spec (h : RM H ow p n k f) {a : Option Addr} {m c q : Nat} (hq : f.ls.length = 2 * q) (hls : q ≤ 1000000) :
    CallF Tryz.prog 66 [hp p, .slice a m c] H (fun v H' => v = .tuple #[] ∧ ∃ ow' lv, RM H' ow' p n k (f.uLines lv (f.ls ++ [.bool false, .slice a m c])) ∧ Ex H ow H' ow') NoP := by
  have bl := build_of (P := Tryz.prog) (t := 115) (parts := [(1, .slice a m c)]) (v := .agg #[.bool false, .slice a m c])
    (by simp [buildL, T.places115, T.zero115, fillL, setR, chk, Value.cells])
  have bs : ∀ Hx : Heap, buildSliceV Tryz.prog Hx 63 1 [(0, .agg #[.bool false, .slice a m c])] = some (.slice (some ⟨Hx.size, 0, none⟩) 1 1, Hx.push (.cells #[.bool false, .slice a m c] 115)) := by
    intro Hx
    refine bsl_sound (vs := [.agg #[.bool false, .slice a m c]]) ?_
    simp [bsl, T.elem63, T.size115, T.zero115, chk, Value.cells]
  have c3 : cellH H ⟨p, 3, none⟩ = some f.lines := h.c 3
  obtain ⟨la, ll, lc, el, hl⟩ := h.lines.vec.len
  have hll : ll = q := by omega
  refine callF_of Tryz.func66 rfl Tryz.ntmps66 Tryz.results66 (by decide) rfl ?_
  simp (disch := omega) only [go_sem, ↓cw_block, dsB_of, c3, bl, bs]
  refine app_lit (n := 1) (new := [.bool false, .slice a m c]) T.el63 rfl h.lines.vec (by simp [oneC]) rfl (by intro a' l c' e; rw [el] at e; simp only [Value.slice.injEq] at e; omega) ?_
  intro v' H2 g1 g2 g3 g4
  obtain ⟨a2, c2, rfl⟩ := g4 _ _ _ el
  obtain ⟨m6, e6, b6⟩ := h.appLines (l := f.ls ++ [.bool false, .slice a m c]) g1 g2 g3
  have w6 := b6.wr (i := 3) (by simp [scells]) (.slice a2 (ll + 1) c2)
  simp (disch := omega) only [go_sem, ↓cw_block, dsB_of, w6]
  exact fin ⟨rfl, _, _, m6, e6⟩

/-- A variable without a value lies in the heap. -/
def HIn (n : Nat) (f : Cf) : Prop := ∀ v : Nat, 1 ≤ v → v ≤ n → (∀ x ∈ f.tr, x / 2 ≠ v) → nt f.pl v ≠ -1
/-- The solver between two steps. -/
structure SOK (H : Heap) (ow : Nat → Nat) (p n : Nat) (k : Bk) (f : Cf) (G : List (List Nat)) : Prop where
  m : RM H ow p n k f
  r : Rl n f
  si : SI n f.s f.C f.w G f.head
  hin : HIn n f
  sn : ∀ v, v ≤ n → bt f.seen v = false
  stp : 1024 ≤ f.step ∧ f.step ≤ 1099511627776
  n : n ≤ 1000
/-- What a step of the search leaves as it was. -/
def Cf.key5 (f : Cf) := (f.conf, f.room, f.rounds, f.loaded, (f.given, f.gs, f.gl), f.model, f.core, f.dead)
/-- What may have grown. -/
structure Gw (f f' : Cf) (d : Nat) : Prop where
  key : f'.key5 = f.key5
  ls : f'.ls.length ≤ f.ls.length + 2 * d
  lrn : f'.lrn.length ≤ f.lrn.length + d
  C : f'.C.length ≤ f.C.length + d
theorem Gw.refl {f : Cf} : Gw f f 0 := ⟨rfl, Nat.le_refl _, Nat.le_refl _, Nat.le_refl _⟩
theorem Gw.trans {f f' f'' : Cf} {d e : Nat} (h : Gw f f' d) (h' : Gw f' f'' e) : Gw f f'' (d + e) :=
  ⟨h'.key.trans h.key, by have := h.ls; have := h'.ls; omega, by have := h.lrn; have := h'.lrn; omega, by have := h.C; have := h'.C; omega⟩
theorem Vp.gw {n : Nat} {f f' : Cf} (h : Vp n f f') : Gw f f' 0 := by
  have e := h.key
  simp only [Cf.key, Prod.mk.injEq] at e
  obtain ⟨e1, e2, e3, e4, e5, e6, e7, e8, e9, e10, e11, e12, e13⟩ := e
  refine ⟨?_, by rw [e4]; exact Nat.le_refl _, by rw [e3]; exact Nat.le_refl _, by rw [e1]; exact Nat.le_refl _⟩
  simp only [Cf.key5, Prod.mk.injEq]
  exact ⟨e2, e5, e6, e7, e8, e10, e11, e12⟩
theorem HIn.pre {f f' : Cf} (h : HIn n f) (hp : f.tr <+: f'.tr) (hpl : ∀ v, (nt f'.pl v = -1 ↔ nt f.pl v = -1)) : HIn n f' := by
  intro v h1 h2 h3 h4
  exact h v h1 h2 (fun x hx => h3 x (hp.subset hx)) ((hpl v).1 h4)
theorem HIn.cut {f f' : Cf} (h : HIn n f) {q : Nat} (ht : f'.tr = f.tr.take q) (hpl : ∀ v, (nt f'.pl v = -1 ↔ nt f.pl v = -1 ∧ v ∉ (f.tr.drop q).map (· / 2))) : HIn n f' := by
  intro v h1 h2 h3 h4
  obtain ⟨h5, h6⟩ := (hpl v).1 h4
  refine h v h1 h2 (fun x hx e => ?_) h5
  rw [← List.take_append_drop q f.tr] at hx
  rcases List.mem_append.1 hx with hx | hx
  · exact h3 x (by rw [ht]; exact hx) e
  · exact h6 (List.mem_map.2 ⟨x, hx, e⟩)
theorem Ex.reow {H' : Heap} {ow' ow'' : Nat → Nat} (h : Ex H ow H' ow') (ho : ∀ b, b < H.size → ow'' b = ow' b) : Ex H ow H' ow'' := ⟨h.sm, fun b hb => by rw [ho b hb, h.ow b hb]⟩
theorem push_new {s : St} {y : Nat} {w : Option Nat} (h : Inv n (s.push y w)) : y ∉ s.tr ∧ neg y ∉ s.tr := by
  have hn : ((s.tr ++ [y]).map (· / 2)).Nodup := h.ok.nodup
  rw [List.map_append] at hn
  have := (List.nodup_append.1 hn).2.2
  exact ⟨fun e => this (y / 2) (List.mem_map.2 ⟨y, e, rfl⟩) (y / 2) (by simp) rfl, fun e => this (y / 2) (List.mem_map.2 ⟨neg y, e, neg_var y⟩) (y / 2) (by simp) rfl⟩
theorem Inv.of_push {s : St} {y : Nat} {w : Option Nat} {l : Nat → List Nat} (h : Inv n s) (hl : ∀ (i x c : Nat), s.tr[i]? = some x → s.rea (x / 2) = some c → l c = s.lits c) : Inv n { s with lits := l } := h.lits hl
set_option maxHeartbeats 2000000 in
/-- A clause is learned. -/
theorem sLearn_spec (h : RM H ow p n k f) (hr : Rl n f) {c x : Nat} {K D : List Nat} (hV : VI n f.s f.C f.w G f.head x K (c :: D)) (hall : ∀ y ∈ f.lits c, neg y ∈ f.tr) (hn : n ≤ 1000) (h0 : 1 ≤ f.st.length) (hst : f.st.length ≤ 1000000)
    (hsn : ∀ v, v ≤ n → bt f.seen v = false) (hstep : 1024 ≤ f.step ∧ f.step ≤ 1099511627776) (hin : HIn n f) {q : Nat} (hq : f.ls.length = 2 * q) (hls : q ≤ 1000000) (hlrn : f.lrn.length ≤ 1000000) (hC : f.C.length ≤ 100000) :
    CallF Tryz.prog 63 [hp p, pv c] H (fun v H' => v = .tuple #[] ∧ ∃ ow' f', SOK H' ow' p n k f' G ∧ Ex H ow H' ow' ∧ f.s.N n < f'.s.N n ∧ Gw f f' 1 ∧ f'.ls.length = 2 * (q + 1) ∧ ∃ L, ∃ hL : L < f.st.length, f'.st = f.st.take L ∧ f.tr.take f.st[L] <+: f'.tr) NoP := by
  refine callF_of Tryz.func63 rfl Tryz.ntmps63 Tryz.results63 (by decide) rfl ?_
  simp (disch := omega) only [go_sem, ↓cw_block, dsB_of]
  refine call_to (sAnalyze_spec (G := G) h hr hV hall hn h0 hst hsn ⟨by omega, by omega⟩) ?_
  rintro v H1 ⟨sn, m, os, pl, ac, l, lv, to, rfl, m1, hpl, hsn1, e1, v1, o1, hana⟩
  obtain ⟨x0, t, hlt, hlrn', hcase⟩ := hana.ex
  have hx0 : ∃ i : Nat, f.tr[i]? = some x0 := by obtain ⟨i, hi, _⟩ := hlrn'.at'; exact ⟨i, hi⟩
  obtain ⟨i0, hi0⟩ := hx0
  have hlc : ∀ z ∈ l, isC n z ∧ (z ∈ f.tr ∨ neg z ∈ f.tr) := by
    intro z hz
    refine ⟨hana.code.1 z hz, .inr ?_⟩
    rw [hlt] at hz
    rcases List.mem_cons.1 hz with rfl | hz
    · rw [neg_neg]; exact List.mem_of_getElem? hi0
    · obtain ⟨j, hj, _⟩ := hlrn'.low z hz
      exact List.mem_of_getElem? hj
  have hll : l.length ≤ n := codes_len hana.code.1 hana.code.2
  have hto := hlrn'.lt
  have hto' : to < f.st.length := hto
  simp (disch := omega) only [go_sem, ↓cw_block, dsB_of]
  refine call_to (sSpread_spec m1 ⟨hr.vals, hr.lv⟩ hV.inv hn v1 hlc (by omega)) ?_
  rintro v H2 ⟨f2, lq, rfl, hlq⟩
  have m2 := m1.out f2 (by simp)
  simp (disch := omega) only [go_sem, ↓cw_block, dsB_of]
  refine call_to (sBack_spec m2 ⟨hr.vals, hr.lv⟩ hV.inv hn hto') ?_
  rintro v H3 ⟨rfl, f3, m3, r3, e3, hs3, hh3, hk3, hpl3⟩
  have hfree : ∀ b ∈ own lv, ow b = 0 := fun b hb => h.free (o1 b hb)
  have v3 : Vec H3 3 1 lv (nv l) := e3.vec (v1.frame f2 (by simp)) hfree
  have hl1 : ∀ z ∈ l, isC n z := fun z hz => (hlc z hz).1
  simp (disch := omega) only [go_sem, ↓cw_block, dsB_of]
  refine call_to (sText_spec (p := p) hn v3 hl1 (by omega)) ?_
  rintro v H4 ⟨f4, zs, idle, v4, o4, hnf⟩
  have m4 := m3.out f4 (by simp)
  have v4' := v3.frame f4 (by simp)
  obtain ⟨wa, wc, ew, -⟩ := (IL.of_vec v4).ex
  subst ew
  have hls3 : f3.ls = f.ls := by
    have := congrArg (fun z => z.1.2.2.2.1) hk3
    exact this
  simp (disch := omega) only [go_sem, ↓cw_block, dsB_of]
  refine call_to (sAddL_spec m4 (by rw [hls3]; exact hq) hls) ?_
  rintro v H5 ⟨rfl, ow5, lnv, m5, e5⟩
  have v5 : Vec H5 3 1 lv (nv l) := e5.vec v4' hfree
  have hk3' := hk3
  simp only [Cf.keyB, Cf.key, Prod.mk.injEq] at hk3'
  obtain ⟨⟨k1, k2, k3, k4, k5, k6, k7, k8, k9, k10, k11, k12, k13⟩, k14, k15, k16, k17, k18⟩ := hk3'
  have e05 : Ex H ow H5 ow5 := ((e1.trans (Ex.of (Sm.of (R := fun _ => False) f2 (by simp)) (by simp))).trans e3).trans ((Ex.of (Sm.of (R := fun _ => False) f4 (by simp)) (by simp)).trans e5)
  have hhin5 : HIn n (f3.uLines lnv (f3.ls ++ [.bool false, .slice wa zs.length wc])) := by
    have hin1 : HIn n ((f.uSeen sn).uOrder m os pl ac) := hin.pre (List.prefix_refl _) hpl
    exact hin1.cut (f' := f3.uLines lnv (f3.ls ++ [.bool false, .slice wa zs.length wc])) (q := f.st[to]) (congrArg St.tr hs3) hpl3
  have hst3 : f3.st.length ≤ 1000000 := by
    have : f3.st = f.st.take to := congrArg St.st hs3
    rw [this]; simp; omega
  obtain ⟨la, lc, el⟩ : ∃ la lc, lv = .slice la l.length lc := by
    obtain ⟨a, len, c', e, e2⟩ := v5.len
    rw [nv_len, Nat.mul_one] at e2; subst e2
    exact ⟨a, c', e⟩
  obtain ⟨b5, o5, c5, e5', k05⟩ := vec_cell v5 (i := 0) (u := iv ((neg x0 : Nat) : Int)) (by rw [hlt]; rfl)
  rw [nv_len] at e5'
  rw [Nat.add_zero] at k05
  have hx0c : isC n (neg x0) := hl1 _ (by rw [hlt]; simp)
  have m5k : ∀ v, v ≤ n → bt f3.seen v = false := by rw [k9]; exact hsn1
  have hstep3 : 1024 ≤ f3.step ∧ f3.step ≤ 1099511627776 := by rw [k13]; exact hstep
  -- the end: the first literal, and the activity
  have fini : ∀ {H7 : Heap} {ow7 : Nat → Nat} {f7 : Cf} {w : Option Nat}, RM H7 ow7 p n k f7 → Rl n f7 → Ex H ow H7 ow7 → cellH H7 ⟨b5, o5, none⟩ = some (iv ((neg x0 : Nat) : Int)) → Inv n f7.s → SI n (f7.s.push (neg x0) w) f7.C f7.w G f7.head → f.s.N n < (f7.s.push (neg x0) w).N n → HIn n f7 → f7.st.length ≤ 1000000 →
      (∀ v, v ≤ n → bt f7.seen v = false) → (1024 ≤ f7.step ∧ f7.step ≤ 1099511627776) → Gw f f7 1 → f7.ls.length = 2 * (q + 1) → (f7.st = f.st.take to ∧ f7.tr = f.tr.take f.st[to]) →
      CallF Tryz.prog 71 [sp p, iv (neg x0), pn w] H7 (fun v H' => ∃ ow' f', v = .tuple #[] ∧ RM H' ow' p n k f' ∧ (1024 ≤ f'.step ∧ f'.step ≤ 1099511627776) ∧ ∀ st' m os pl ac H'' , RM H'' ow' p n k ((f'.uStep st').uOrder m os pl ac) → Ex H' ow' H'' ow' → (1024 ≤ st' ∧ st' ≤ 1099511627776) → (∀ v, (nt pl v = -1 ↔ nt f'.pl v = -1)) → 
        ∃ ow' f', SOK H'' ow' p n k f' G ∧ Ex H ow H'' ow' ∧ f.s.N n < f'.s.N n ∧ Gw f f' 1 ∧ f'.ls.length = 2 * (q + 1) ∧ ∃ L, ∃ hL : L < f.st.length, f'.st = f.st.take L ∧ f.tr.take f.st[L] <+: f'.tr) NoP := by
    intro H7 ow7 f7 w m7 r7 e7 kk hi7 hsi hN hh7 hst7 hsn7 hstp7 hgw hlsq hcut
    obtain ⟨n1, n2⟩ := push_new hsi.inv
    refine (sSet_spec m7 r7 hi7 hn hx0c n1 n2 hst7 w).to ?_
    rintro v H8 ⟨rfl, ow8, vs8, lv8, la8, v8, m8, r8, e8⟩
    refine ⟨ow8, _, rfl, m8, hstp7, fun st' m os pl ac H'' m9 e9 hs9 hp9 => ?_⟩
    refine ⟨ow8, _, ⟨m9, ⟨r8.vals, r8.lv⟩, hsi, ?_, hsn7, hs9, hn⟩, (e7.trans e8).trans e9, hN, ⟨hgw.key, hgw.ls, hgw.lrn, hgw.C⟩, hlsq, to, hto', hcut.1, by
      show _ <+: f7.tr ++ [neg x0]
      rw [hcut.2]; exact List.prefix_append _ _⟩
    exact hh7.pre (f' := (((f7.push (neg x0) w vs8 lv8 la8 v8).uStep st').uOrder m os pl ac)) (List.prefix_append _ _) hp9
  rcases hcase with ⟨ht0, hto0⟩ | ⟨h1to, y, t', ht', j, hj, hjl⟩
  · have hl1' : l.length = 1 := by rw [hlt, ht0]; rfl
    rw [hl1'] at e5' el
    subst e5'
    simp only [Value.slice.injEq] at el
    obtain ⟨rfl, -, rfl⟩ := el
    simp (disch := omega) only [go_sem, ↓cw_block, dsB_of]
    refine draw0 (lk [(0, true), (1, true), (2, true), (3, true), (4, true), (5, true), (6, true)] (.act 7 .fin .non)) T.mixed ?_
    simp (disch := omega) only [go_sem, ↓cw_block, dsB_of, k05]
    subst hto0
    rw [ht0] at hlrn'
    have hlearn := hV.learn1 hlrn' (fun mm hm hG => by
      obtain ⟨z, hz1, hz2⟩ := hana.so mm hm hG
      rw [hlt, ht0] at hz1
      have := List.mem_singleton.1 hz1
      subst this; exact hz2)
    refine call_to (fini (f7 := f3.uLines lnv (f3.ls ++ [.bool false, .slice wa zs.length wc])) (w := none) m5 ⟨r3.vals, r3.lv⟩ e05 k05 ?_ ?_ ?_ hhin5 hst3 m5k hstep3 ?_ ?_ ⟨congrArg St.st hs3, congrArg St.tr hs3⟩) ?_
    · show Inv n f3.s
      rw [hs3]; exact hV.inv.cut hto
    · show SI n (f3.s.push (neg x0) none) f3.C f3.w G f3.head
      rw [hs3, k1, k14, hh3]; exact hlearn.1
    · show f.s.N n < (f3.s.push (neg x0) none).N n
      rw [hs3]; exact hlearn.2
    · refine ⟨?_, ?_, ?_, ?_⟩
      · show f3.key5 = f.key5
        simp only [Cf.key5, k2, k5, k6, k7, k8, k10, k11, k12]
      · show (f3.ls ++ _).length ≤ _
        rw [hls3]; simp
      · show f3.lrn.length ≤ _
        rw [k3]; show f.lrn.length ≤ _; omega
      · show f3.C.length ≤ _
        rw [k1]; show f.C.length ≤ _; omega
    · show (f3.ls ++ _).length = _
      rw [hls3]; simp; omega
    · rintro v H8 ⟨ow8, f8, rfl, m8, hs8, hfin⟩
      simp (disch := omega) only [go_sem, ↓cw_block, dsB_of]
      refine call_to (sGrow_spec m8 hs8) ?_
      rintro v H9 ⟨rfl, st9, m9, os9, pl9, ac9, mm9, e9, hst9, hpl9⟩
      simp (disch := omega) only [go_sem, ↓cw_block, dsB_of, dsB_of]
      obtain ⟨ow', f', z1, z2, z3, z4, z5, z6⟩ := hfin st9 m9 os9 pl9 ac9 H9 mm9 e9 hst9 hpl9
      exact fin ⟨rfl, ow', f', z1, z2, z3, z4, z5, z6⟩
  · have hll2 : l.length = t'.length + 2 := by rw [hlt, ht']; rfl
    have hlx : l = neg x0 :: y :: t' := by rw [hlt, ht']
    subst el
    simp only [Value.slice.injEq] at e5'
    obtain ⟨rfl, -, rfl⟩ := e5'
    have bl := build_of (P := Tryz.prog) (t := 106) (parts := [(0, .slice (some ⟨b5, o5, none⟩) l.length lc), (1, iv lq)]) (v := .agg #[.slice (some ⟨b5, o5, none⟩) l.length lc, iv lq, .bool false])
      (by simp [buildL, T.places106, T.zero106, fillL, setR, chk, Value.cells])
    obtain ⟨H6, hH6⟩ : ∃ H6, H5.push (.cells #[.slice (some ⟨b5, o5, none⟩) l.length lc, iv lq, .bool false] 106) = H6 := ⟨_, rfl⟩
    have f6 : Fr [] H5 H6 := by rw [← hH6]; exact Fr.push
    have hbk : Blk H6 H5.size 106 [.slice (some ⟨b5, o5, none⟩) l.length lc, iv lq, .bool false] := by rw [← hH6]; exact Blk.new rfl
    have hz6 : H6.size = H5.size + 1 := by rw [← hH6]; simp
    have hb5 : H.size ≤ b5 := o1 b5 (by simp [own])
    have hb5' : b5 < H5.size := v5.lt b5 (by simp [own])
    have how5 : ow5 b5 = 0 := by
      have hb4 : b5 < H4.size := v4'.lt b5 (by simp [own])
      rw [e5.ow b5 hb4]; exact hfree b5 (by simp [own])
    obtain ⟨ow6, how6⟩ : ∃ ow6 : Nat → Nat, ow6 = fun b => if b = H5.size then 18 else if b = b5 then 101 + 2 * H5.size else ow5 b := ⟨_, rfl⟩
    have z5 : ow5 H5.size = 0 := m5.free (Nat.le_refl _)
    have m6a := m5.out f6 (by simp)
    have m6b := m6a.adopt (ow' := ow6) (fun b hb => by
      have n1 : b ≠ H5.size := fun e => hb (by rw [e]; exact z5)
      have n2 : b ≠ b5 := fun e => hb (by rw [e]; exact how5)
      rw [how6]; simp only
      rw [if_neg n1, if_neg n2]) (fun b hb => by
      rw [how6] at hb; simp only at hb
      split at hb
      · omega
      · split at hb
        · omega
        · have := m5.lo b hb; omega)
    have hcn : H5.size ∉ (f3.uLines lnv (f3.ls ++ [.bool false, .slice wa zs.length wc])).C := fun e => by
      have := (m5.con _ e).blk.blk.lt; omega
    have hCR : CR H6 ow6 H5.size (.slice (some ⟨b5, o5, none⟩) l.length lc) l lq := by
      refine ⟨⟨hbk, by rw [how6]; simp⟩, ⟨v5.frame f6 (by simp), fun b hb => ?_⟩⟩
      simp only [own, List.mem_singleton] at hb
      rw [hb, how6]
      show (if b5 = H5.size then 18 else if b5 = b5 then 101 + 2 * H5.size else ow5 b5) = _
      rw [if_neg (by omega), if_pos rfl]
    have m6 := m6b.addCon hcn hCR
    have e06 : Ex H ow H6 ow6 := (e05.trans (Ex.of (Sm.of (R := fun _ => False) f6 (by simp)) (by simp))).reow (fun b hb => by
      rw [how6]; simp only
      have := e05.sm.size
      rw [if_neg (by omega), if_neg (by omega)])
    have c18 : cellH H6 ⟨p, 18, none⟩ = some f3.learned := m6.c 18
    obtain ⟨na, nl, nc, en, hnl⟩ := m6.learned.vec.len
    have hnl' : f3.lrn.length = nl := by simpa using hnl
    have hlr3 : f3.lrn.length ≤ 1000000 := by rw [k3]; exact hlrn
    have hlearn := hV.learn2 (c := H5.size) (y := y) (r := t') (to := to) (x0 := x0) (by rw [← ht']; exact hlrn') ⟨j, hj, hjl⟩ (by
      intro e
      have e' : H5.size ∈ (f3.uLines lnv (f3.ls ++ [.bool false, .slice wa zs.length wc])).C := by show H5.size ∈ f3.C; rw [k1]; exact e
      exact hcn e') (by rw [← hlx]; exact hana.code) h1to (fun mm hm hG => by rw [← hlx]; exact hana.so mm hm hG)
    have en' : f3.learned = .slice na nl nc := en
    rw [en'] at c18
    simp (disch := omega) only [go_sem, ↓cw_block, dsB_of, bl]
    rw [hH6]
    simp (disch := omega) only [go_sem, ↓cw_block, dsB_of, c18]
    refine app_lit1 T.el66 rfl (by rw [← en']; exact m6.learned.vec) rfl (by rw [List.length_map]; show (2 * (f3.lrn.length + 1) + 200) * _ ≤ _; omega) ?_
    intro v' H7 g1 g2 g3 g4
    obtain ⟨a', c', rfl⟩ := g4
    rw [← en'] at g2 g3
    obtain ⟨m7, e7, b7⟩ := m6.appLearned (l := f3.lrn ++ [H5.size]) (by rw [List.map_append]; exact g1) g2 g3
    have w7 := b7.wr (i := 18) (by simp [scells]) (.slice a' ((f3.lrn.map pv).length + 1) c')
    simp (disch := omega) only [go_sem, ↓cw_block, dsB_of, w7]
    have hyc : isC n y := hana.code.1 y (by rw [hlx]; simp)
    have hxy : neg x0 ≠ y := by
      intro e
      have := hana.code.2
      rw [hlx, e] at this
      simp at this
    refine call_to (sAttach_spec m7 (c := H5.size) (a := neg x0) (b := y) (r := t') (by show H5.size ∈ H5.size :: f3.C; simp) (by show upd f3.lits H5.size l H5.size = _; rw [upd_same]; exact hlx) (isC_lt hx0c).1 (isC_lt hyc).1 hxy (fun z => by
      show (f3.w z).length ≤ _
      rw [k14]
      have := hV.wi.len z
      show (f.w z).length ≤ _
      have hh : (f.w z).length ≤ f.C.length := this
      omega)) ?_
    rintro v H8 ⟨rfl, ow8, ws8, m8, e8⟩
    have k08 : cellH H8 ⟨b5, o5, none⟩ = some (iv ((neg x0 : Nat) : Int)) := by
      have := m8.litc (c := H5.size) (lb := b5) (lo := o5) (i := 0) (x := neg x0) (by show H5.size ∈ H5.size :: f3.C; simp) (by show upd f3.lb H5.size _ H5.size = _; rw [upd_same]) (by show (upd f3.lits H5.size l H5.size)[0]? = _; rw [upd_same, hlx]; rfl)
      rw [Nat.add_zero] at this; exact this
    simp (disch := omega) only [go_sem, ↓cw_block, dsB_of]
    refine draw0 (lk [(0, true), (1, true), (2, true), (3, true), (4, true), (5, true), (6, true)] (.act 7 .fin .non)) T.mixed ?_
    simp (disch := omega) only [go_sem, ↓cw_block, dsB_of, k08]
    have hR : Rl n (((f3.uLines lnv (f3.ls ++ [.bool false, .slice wa zs.length wc])).uCon (H5.size :: f3.C) (upd f3.lits H5.size l) (upd f3.lb H5.size (.slice (some ⟨b5, o5, none⟩) l.length lc)) (upd f3.l2 H5.size lq)).uLearned (.slice a' ((f3.lrn.map pv).length + 1) c') (f3.lrn ++ [H5.size]) |>.uWat ws8 (att f3.w H5.size (neg x0) y)) := ⟨r3.vals, r3.lv⟩
    refine call_to (fini (w := some H5.size) m8 hR ((e06.trans e7).trans e8) k08 ?_ ?_ ?_ hhin5 hst3 m5k hstep3 ?_ ?_ ⟨congrArg St.st hs3, congrArg St.tr hs3⟩) ?_
    · show Inv n (f3.s.lit H5.size l)
      have hic : Inv n f3.s := by rw [hs3]; exact hV.inv.cut hto
      refine hic.lits fun i z c' hi hc' => upd_ne fun e => ?_
      subst e
      have hcc : H5.size ∈ f3.C := by
        rw [k1]
        have hz : (f.s.cut to f.st[to]).rea (z / 2) = some H5.size := by have h2 : f3.s.rea (z / 2) = some H5.size := hc'; rw [hs3] at h2; exact h2
        have hz2 : (f.s.cut to f.st[to]).tr[i]? = some z := by have h2 : f3.s.tr[i]? = some z := hi; rw [hs3] at h2; exact h2
        exact hV.wi.cut.rs i z H5.size hz2 hz
      exact hcn hcc
    · show SI n ((f3.s.lit H5.size l).push (neg x0) (some H5.size)) (H5.size :: f3.C) (att f3.w H5.size (neg x0) y) G f3.head
      rw [hs3, k1, k14, hh3, hlx]; exact hlearn.1
    · show f.s.N n < ((f3.s.lit H5.size l).push (neg x0) (some H5.size)).N n
      rw [hs3, hlx]; exact hlearn.2
    · refine ⟨?_, ?_, ?_, ?_⟩
      · show f3.key5 = f.key5
        simp only [Cf.key5, k2, k5, k6, k7, k8, k10, k11, k12]
      · show (f3.ls ++ _).length ≤ _
        rw [hls3]; simp
      · show (f3.lrn ++ _).length ≤ _
        rw [k3]; show (f.lrn ++ _).length ≤ _; simp
      · show (H5.size :: f3.C).length ≤ _
        rw [k1]; show (H5.size :: f.C).length ≤ _; simp
    · show (f3.ls ++ _).length = _
      rw [hls3]; simp; omega
    · rintro v H9 ⟨ow9, f9, rfl, m9, hs9, hfin⟩
      simp (disch := omega) only [go_sem, ↓cw_block, dsB_of]
      refine call_to (sGrow_spec m9 hs9) ?_
      rintro v H10 ⟨rfl, st9, mm9, os9, pl9, ac9, m10, e10, hst9, hpl9⟩
      simp (disch := omega) only [go_sem, ↓cw_block, dsB_of, dsB_of]
      obtain ⟨ow', f', z1, z2, z3, z4, z5, z6⟩ := hfin st9 mm9 os9 pl9 ac9 H10 m10 e10 hst9 hpl9
      exact fin ⟨rfl, ow', f', z1, z2, z3, z4, z5, z6⟩
end
end Go.Proofs.YtofooamimiijlaaGreat

