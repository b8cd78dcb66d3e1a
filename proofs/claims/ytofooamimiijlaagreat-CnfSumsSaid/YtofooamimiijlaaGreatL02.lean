/- The condition of an operation that may write, make memory or call, in a form for simp; soundness. -/
import Derived.Test.YtofooamimiijlaaGreatL01
import Derived.IntWalk
namespace Go.HL

/-! ### Combinators: simp looks into their first argument alone -/
def withV (v : Value) (k : Value → Prop) : Prop := k v
def someW {α : Type} (o : Option α) (k : α → Prop) : Prop :=
  match o with
  | some a => k a
  | none => False
def ptrW (v : Value) (k : Addr → Prop) : Prop :=
  match v with
  | .pointer (some a) => k a
  | _ => False
theorem someW_iff {α : Type} {o : Option α} {k : α → Prop} : someW o k ↔ ∃ a, o = some a ∧ k a := by
  cases o <;> simp [someW]
@[congr] theorem withV_congr {v v' : Value} {k : Value → Prop} (h : v = v') : withV v k = withV v' k := by rw [h]
@[congr] theorem someW_congr {α : Type} {o o' : Option α} {k : α → Prop} (h : o = o') : someW o k = someW o' k := by rw [h]
@[congr] theorem ptrW_congr {v v' : Value} {k : Addr → Prop} (h : v = v') : ptrW v k = ptrW v' k := by rw [h]

/-! ### Calls -/
def CallF (P : Program) (g : FuncId) (args : List Value) (H : Heap) (R : Value → Heap → Prop) (E : List PanicEntry → Heap → Prop) : Prop :=
  hwp P (callFunc g args.toArray) H (fun nx H' => match nx with
    | .value v => R v H'
    | .enter f as => HCalls P f as H' R E
    | _ => False) (fun v H' => E [{ v, recovered := false }] H')
@[congr] theorem CallF_congr {P : Program} {g : FuncId} {args args' : List Value} {H : Heap} {R : Value → Heap → Prop} {E : List PanicEntry → Heap → Prop} (h : args = args') :
    CallF P g args H R E = CallF P g args' H R E := by rw [h]
theorem CallF.mono {P : Program} {f : FuncId} {args : List Value} {H : Heap} {R R' : Value → Heap → Prop} {E E' : List PanicEntry → Heap → Prop}
    (h : CallF P f args H R E) (hr : ∀ v H', R v H' → R' v H') (he : ∀ c H', E c H' → E' c H') : CallF P f args H R' E' := by
  refine hwp_mono P _ _ _ _ _ _ ?_ (fun v H' => he _ H') h
  intro nx H' hx
  cases nx <;> first | exact hr _ _ hx | exact HCalls.mono hx hr he | exact hx
/-- A call that never panics. -/
def NoP : List PanicEntry → Heap → Prop := fun _ _ => False
theorem CallF.to {P : Program} {f : FuncId} {args : List Value} {H : Heap} {R R' : Value → Heap → Prop} {E' : List PanicEntry → Heap → Prop}
    (h : CallF P f args H R NoP) (hr : ∀ v H', R v H' → R' v H') : CallF P f args H R' E' := h.mono hr (fun _ _ x => x.elim)

def callV (P : Program) (f : Value) (args : List Value) (H : Heap) (R : Value → Heap → Prop) (E : List PanicEntry → Heap → Prop) : Prop :=
  match f with
  | .func (.func g) first captured => CallF P g (first.toList ++ args ++ captured.toList) H R E
  | _ => False
@[congr] theorem callV_congr {P : Program} {f f' : Value} {args args' : List Value} {H : Heap} {R : Value → Heap → Prop} {E : List PanicEntry → Heap → Prop} (h : f = f') (h' : args = args') :
    callV P f args H R E = callV P f' args' H R E := by rw [h, h']

/-- A panic with a value. -/
def panW (v : Value) (k : Value → Prop) : Prop :=
  match v with
  | .iface t u => k (.iface t u)
  | _ => False
/-- A call of a method of what an interface holds. -/
def invW (P : Program) (x : Value) (m : String) (args : List Value) (H : Heap) (R : Value → Heap → Prop) (E : List PanicEntry → Heap → Prop) : Prop :=
  hwp P (callMethod x m args.toArray) H (fun nx H' => match nx with
    | .value v => R v H'
    | .enter f as => HCalls P f as H' R E
    | _ => False) (fun v H' => E [{ v, recovered := false }] H')
theorem invW.mono {P : Program} {x : Value} {m : String} {args : List Value} {H : Heap} {R R' : Value → Heap → Prop} {E E' : List PanicEntry → Heap → Prop}
    (h : invW P x m args H R E) (hr : ∀ v H', R v H' → R' v H') (he : ∀ c H', E c H' → E' c H') : invW P x m args H R' E' := by
  refine hwp_mono P _ _ _ _ _ _ ?_ (fun v H' => he _ H') h
  intro nx H' hx
  cases nx <;> first | exact hr _ _ hx | exact HCalls.mono hx hr he | exact hx
theorem invW_of {P : Program} {t : TypeId} {v r : Value} {m : String} {f : FuncId} {args : List Value} {H : Heap} {R : Value → Heap → Prop} {E : List PanicEntry → Heap → Prop}
    (hm : qrun P (Go.method (P.types.size + Made.depth) t v m) H = some (f, r)) (h : CallF P f (r :: args) H R E) : invW P (.iface t v) m args H R E := by
  unfold invW callMethod
  show hwp P (do let (f, receiver) ← Go.method (P.types.size + Made.depth) t v m; callFunc f (#[receiver] ++ args.toArray)) H _ _
  refine hwp_qbind hm ?_
  have e : #[r] ++ args.toArray = (r :: args).toArray := by apply Array.ext'; simp
  show hwp P (callFunc f (#[r] ++ args.toArray)) H _ _
  rw [e]
  exact h

/-! ### New memory -/
def mkCells (z : Array Value) (n : Nat) : Array Value := (Array.range n).map (z[· % z.size]!)
def newPtr (H : Heap) : Value := .pointer (some ⟨H.size, 0, none⟩)
def makeV (P : Program) (H : Heap) (t : TypeId) (l c : Value) : Option (Value × Heap) :=
  match l, c with
  | .int _ l, .int _ c => (elemT P t).bind fun e => (bytesT P e).bind fun b => (sizeT P e).bind fun s => (zeroT P e).bind fun z =>
    if 0 ≤ l ∧ l ≤ c ∧ c ≤ 281474976710656 ∧ (b : Int) * c ≤ 281474976710656 then
      some (.slice (some ⟨H.size, 0, none⟩) l.toNat c.toNat, H.push (.cells (mkCells z.cells (c.toNat * s)) e)) else none
  | _, _ => none
theorem wrap_i64_small (n : Int) (h0 : 0 ≤ n) (h1 : n ≤ 281474976710656) : IntKind.i64.wrap n = n := IntWalk.i64_in n (by omega)
theorem hwp_makeSlice {P : Program} {H H' : Heap} {t : TypeId} {l c r : Value} {Q : Value → Heap → Prop} {E : Value → Heap → Prop} (h : makeV P H t l c = some (r, H')) (hq : Q r H') :
    hwp P (Instr.makeSlice t l c) H Q E := by
  unfold makeV at h
  split at h
  · rename_i k l k' c
    cases he : elemT P t with
    | none => simp [he] at h
    | some e =>
      cases hb : bytesT P e with
      | none => simp [he, hb] at h
      | some b =>
        cases hs : sizeT P e with
        | none => simp [he, hb, hs] at h
        | some s =>
          cases hz : zeroT P e with
          | none => simp [he, hb, hs, hz] at h
          | some z =>
            simp only [he, hb, hs, hz, Option.bind_some] at h
            split at h
            · rename_i hc
              obtain ⟨h0, h1, h2, h3⟩ := hc
              simp only [Option.some.injEq, Prod.mk.injEq] at h
              obtain ⟨rfl, rfl⟩ := h
              have hu : P.underlying t = some (.slice e) := by
                unfold elemT at he
                cases hu : P.underlying t with
                | none => simp [hu] at he
                | some d => cases d <;> simp [hu] at he; subst he; rfl
              have hi : ∃ i, P.info? e = some i ∧ i.bytes = b := by
                unfold bytesT at hb
                cases hi : P.info? e with
                | none => simp [hi] at hb
                | some i => simp [hi] at hb; exact ⟨i, rfl, hb⟩
              obtain ⟨i, hi, hib⟩ := hi
              have wl := wrap_i64_small l h0 (by omega)
              have wc := wrap_i64_small c (by omega) h2
              unfold Instr.makeSlice
              refine hwp_qbind (qrun_underlying hu H) ?_
              simp only
              refine hwp_qbind (a := l) rfl ?_
              refine hwp_qbind (a := c) rfl ?_
              refine hwp_qbind (qrun_typeInfo hi H) ?_
              simp only [wl, wc, hib]
              rw [if_neg (by simp; omega)]
              refine hwp_qbind (a := ()) (by unfold askRoom; split <;> rfl) ?_
              refine hwp_qbind (qrun_sizeOf hs H) ?_
              split
              · rename_i hn
                have e0 : mkCells z.cells (c.toNat * s) = #[] := by simp [mkCells, hn]
                rw [e0] at hq
                have e1 : (Array.range (c.toNat * s)).map (fun x => (#[] : Array Value)[x % (#[] : Array Value).size]!) = #[] := by simp [hn]
                show hwp P (newRow e ((Array.range (c.toNat * s)).map fun x => (#[] : Array Value)[x % (#[] : Array Value).size]!) >>= fun a => pure (Value.slice (some a) l.toNat c.toNat)) H Q E
                rw [e1]
                exact hq
              · refine hwp_qbind (qrun_zeroValue hz H) ?_
                exact hq
            · simp at h
  · simp at h

def fillV (size : Nat) (cells : Array Value) (parts : List (Nat × Value)) : Option (Array Value) := Instr.fill (fun i => some (i * size, size)) cells parts
def buildSliceV (P : Program) (H : Heap) (t : TypeId) (len : Nat) (parts : List (Nat × Value)) : Option (Value × Heap) :=
  (elemT P t).bind fun e => (sizeT P e).bind fun s => (zeroT P e).bind fun z =>
    if len * s ≤ 16777216 then
      (fillV s (mkCells z.cells (len * s)) parts).map fun cs => (.slice (some ⟨H.size, 0, none⟩) len len, H.push (.cells cs e)) else none
theorem hwp_buildSlice {P : Program} {H H' : Heap} {t : TypeId} {len : Nat} {parts : List (Nat × Value)} {r : Value} {Q : Value → Heap → Prop} {E : Value → Heap → Prop}
    (h : buildSliceV P H t len parts = some (r, H')) (hq : Q r H') : hwp P (Instr.buildSlice t len parts.toArray) H Q E := by
  unfold buildSliceV at h
  cases he : elemT P t with
  | none => simp [he] at h
  | some e =>
    cases hs : sizeT P e with
    | none => simp [he, hs] at h
    | some s =>
      cases hz : zeroT P e with
      | none => simp [he, hs, hz] at h
      | some z =>
        simp only [he, hs, hz, Option.bind_some] at h
        split at h
        · rename_i hc
          have hu : P.underlying t = some (.slice e) := by
            unfold elemT at he
            cases hu : P.underlying t with
            | none => simp [hu] at he
            | some d => cases d <;> simp [hu] at he; subst he; rfl
          cases hf : fillV s (mkCells z.cells (len * s)) parts with
          | none => simp [hf] at h
          | some cs =>
            simp only [hf, Option.map_some, Option.some.injEq, Prod.mk.injEq] at h
            obtain ⟨rfl, rfl⟩ := h
            unfold Instr.buildSlice
            refine hwp_qbind (qrun_underlying hu H) ?_
            simp only
            refine hwp_qbind (qrun_sizeOf hs H) ?_
            rw [if_neg (by simp; omega)]
            unfold fillV at hf
            split
            · rename_i hn
              have e0 : mkCells z.cells (len * s) = (Array.range (len * s)).map fun x => (#[] : Array Value)[x % (#[] : Array Value).size]! := by simp [mkCells, hn]
              rw [e0] at hf
              show hwp P (match Instr.fill (fun i => some (i * s, s)) ((Array.range (len * s)).map fun x => (#[] : Array Value)[x % (#[] : Array Value).size]!) parts with
                | some cells => do
                  let a ← newRow e cells
                  pure (Value.slice (some a) len len)
                | _ => stuck "buildSlice: a part of the wrong size") H Q E
              simp only [hf]
              exact hq
            · refine hwp_qbind (qrun_zeroValue hz H) ?_
              show hwp P (match Instr.fill (fun i => some (i * s, s)) (mkCells z.cells (len * s)) parts with
                | some cells => do
                  let a ← newRow e cells
                  pure (Value.slice (some a) len len)
                | _ => stuck "buildSlice: a part of the wrong size") H Q E
              simp only [hf]
              exact hq
        · simp at h

/-! ### append -/
def srcCells (H : Heap) (size n : Nat) : Value → Option (List Value)
  | .slice (some a) _ _ => cellsH (cellH H) a 0 (n * size)
  | .slice none _ _ => some []
  | .string s => some ((s.extract 0 n).data.toList.map fun b => .int .u8 b.toNat)
  | _ => none
def lenS : Value → Option Nat
  | .slice _ n _ => some n
  | .string s => some s.size
  | _ => none
def appW (P : Program) (H : Heap) (t xt : TypeId) (s x : Value) (k : Value → Heap → Prop) : Prop :=
  match s with
  | .slice base len cap =>
    someW (elemT P t) fun e => someW (sizeT P e) fun size => someW (bytesT P e) fun bytes => someW (zeroT P e) fun z => someW (lenS x) fun n => someW (srcCells H size n x) fun new =>
      someW (P.underlying xt) fun d => (∀ kk, d ≠ .int kk) ∧
      if len + n ≤ cap then
        match base with
        | some a => someW (storeCellsH H (a.add (len * size)) new 0) fun H' => k (.slice base (len + n) cap) H'
        | none => k (.slice base (len + n) cap) H
      else
        Builtin.nextslicecap (len + n) cap * bytes ≤ 281474976710656 ∧ len + n ≤ 281474976710656 ∧ (bytes = 0 → len + n ≤ 9223372036854775807) ∧
        someW (srcCells H size len s) fun old => ∀ newCap, len + n ≤ newCap → newCap < 9223372036854775808 →
          k (.slice (some ⟨H.size, 0, none⟩) (len + n) newCap) (H.push (.cells (old.toArray ++ new.toArray ++ Builtin.zeroCells z.cells (newCap - (len + n))) e))
  | _ => False

theorem qrun_firstCells {P : Program} {H : Heap} {size n : Nat} {v : Value} {l : List Value} (h : srcCells H size n v = some l) : qrun P (Builtin.firstCells size n v) H = some l.toArray := by
  unfold srcCells at h
  split at h
  · rename_i a _ _
    show qrun P (loadCells a (n * size)) H = _
    unfold loadCells
    rw [qrun_loadCellsFrom _ 0 #[] l h]
    simp
  · simp only [Option.some.injEq] at h; subst h; rfl
  · rename_i s
    simp only [Option.some.injEq] at h; subst h
    show some _ = some _
    congr 1
    apply Array.ext'
    simp
  · simp at h

theorem hwp_append {P : Program} {H : Heap} {t xt ty : TypeId} {s x : Value} {k : Value → Heap → Prop} {E : Value → Heap → Prop} (h : appW P H t xt s x k) :
    hwp P (Builtin.append_ #[t, xt] ty #[s, x]) H k E := by
  unfold appW at h
  split at h
  · rename_i base len cap
    simp only [someW_iff] at h
    obtain ⟨e, he, size, hsz, bytes, hby, z, hz, n, hn, new, hnew, d, hd, hdi, h⟩ := h
    have hu : P.underlying t = some (.slice e) := by
      unfold elemT at he
      cases hu : P.underlying t with
      | none => simp [hu] at he
      | some d => cases d <;> simp [hu] at he; subst he; rfl
    have hi : ∃ i, P.info? e = some i ∧ i.bytes = bytes := by
      unfold bytesT at hby
      cases hi : P.info? e with
      | none => simp [hi] at hby
      | some i => simp [hi] at hby; exact ⟨i, rfl, hby⟩
    obtain ⟨i, hi, hib⟩ := hi
    unfold Builtin.append_
    simp only [List.getElem?_toArray, List.getElem?_cons_zero, List.getElem?_cons_succ]
    refine hwp_qbind (qrun_underlying hu H) ?_
    simp only
    refine hwp_qbind (qrun_sizeOf hsz H) ?_
    refine hwp_qbind (qrun_underlying hd H) ?_
    refine hwp_qbind (a := false) ?_ ?_
    · cases d <;> first | rfl | exact absurd rfl (hdi _)
    simp only [Bool.false_eq_true, if_false, Bool.not_false, if_true]
    refine hwp_qbind (a := n) ?_ ?_
    · unfold lenS at hn
      split at hn
      · simp only [Option.some.injEq] at hn; subst hn; rfl
      · simp only [Option.some.injEq] at hn; subst hn; rfl
      · simp at hn
    split at h
    · rename_i hfit
      rw [if_pos hfit]
      refine hwp_qbind (qrun_firstCells hnew) ?_
      cases base with
      | none => exact h
      | some a =>
        obtain ⟨H', hst, hk⟩ := h
        simp only
        rw [hwp_bind']
        exact hwp_storeCells _ 0 H H' (by simpa using hst) hk
    · rename_i hfit
      rw [if_neg hfit]
      obtain ⟨h1, h2, h3, old, hold, hk⟩ := h
      refine hwp_qbind (qrun_typeInfo hi H) ?_
      rw [hib]
      rw [if_neg (by rintro ⟨ha, hb⟩; simp [IntKind.max, IntKind.bits, IntKind.signed] at ha hb; omega)]
      refine hwp_qbind (qrun_typeInfo hi H) ?_
      rw [hib, if_neg (by simp; omega)]
      rw [hwp_bind']
      show hwp P (choose (.appendCap (len + n) cap e)) H _ E
      simp only [choose, hwp, Question.forced]
      intro tt
      simp only [Question.cut]
      refine hwp_qbind (qrun_typeInfo hi H) ?_
      refine hwp_qbind (a := ()) (by unfold askRoom; split <;> rfl) ?_
      refine hwp_qbind (qrun_firstCells hold) ?_
      refine hwp_qbind (qrun_firstCells hnew) ?_
      refine hwp_qbind (qrun_zeroValue hz H) ?_
      refine hk _ (by omega) ?_
      have := Nat.mod_lt tt (y := 2 ^ 63 - (len + n)) (by omega)
      omega
  · exact h.elim

/-! ### Maps -/
def mapW (P : Program) (H : Heap) (t : TypeId) (m k x : Value) (K : Heap → Prop) (E : Value → Heap → Prop) : Prop := hwp P (Instr.mapUpdate t m k x) H (fun _ H' => K H') E
theorem mapW_mono {P : Program} {H : Heap} {t : TypeId} {m k x : Value} {K K' : Heap → Prop} {E E' : Value → Heap → Prop} (hk : ∀ H, K H → K' H) (he : ∀ v H, E v H → E' v H) (h : mapW P H t m k x K E) : mapW P H t m k x K' E' :=
  hwp_mono P _ _ _ _ _ _ (fun _ H h => hk H h) he h

/-! ### One operation -/
def opV (n : Nat) (P : Program) (o : Oper) (ρ : En) (H : Heap) (K : En → Heap → Prop) (Q : Exit → En → Heap → Prop) : Prop :=
  match o.op with
  | .store t a x => ptrW (ρ.ev a) fun ad => withV (ρ.ev x) fun v => someW (storeA P H t ad v) fun H' => K (ρ.put n o.dst undef) H'
  | .alloc t => someW (zeroT P t) fun z => K (ρ.put n o.dst (newPtr H)) (H.push (.cells z.cells t))
  | .box t x => withV (ρ.ev x) fun v => K (ρ.put n o.dst (newPtr H)) (H.push (.cells v.cells t))
  | .makeSlice t l c => someW (makeV P H t (ρ.ev l) (ρ.ev c)) fun r => K (ρ.put n o.dst r.1) r.2
  | .buildSlice t len parts => someW (buildSliceV P H t len (parts.toList.map fun p => (p.1, ρ.ev p.2))) fun r => K (ρ.put n o.dst r.1) r.2
  | .makeMap _ none => K (ρ.put n o.dst (.map (some H.size))) (H.push (.map #[] 0))
  | .mapUpdate t m k x => mapW P H t (ρ.ev m) (ρ.ev k) (ρ.ev x) (fun H' => K (ρ.put n o.dst undef) H') (fun v H' => Q (.panic [{ v, recovered := false }]) ρ H')
  | .insert t m k x => mapW P H t (ρ.ev m) (ρ.ev k) (ρ.ev x) (fun H' => K (ρ.put n o.dst undef) H') (fun v H' => Q (.panic [{ v, recovered := false }]) ρ H')
  | .call ⟨.builtin .append, args, ats⟩ => match ats.toList, args.toList with
    | [t, xt], [s, x] => withV (ρ.ev s) fun s => withV (ρ.ev x) fun x => appW P H t xt s x fun v H' => K (ρ.put n o.dst v) H'
    | _, _ => False
  | .call ⟨.builtin .unsafeSliceData, args, ats⟩ => hwp P (Builtin.unsafeSliceData_ ats o.type (args.toList.map ρ.ev).toArray) H (fun v H' => K (ρ.put n o.dst v) H') (fun _ _ => False)
  | .call ⟨.builtin .unsafeString, args, ats⟩ => hwp P (Builtin.unsafeString_ ats o.type (args.toList.map ρ.ev).toArray) H (fun v H' => K (ρ.put n o.dst v) H') (fun _ _ => False)
  | .call ⟨.builtin .clear, args, ats⟩ => hwp P (Builtin.clear_ ats o.type (args.toList.map ρ.ev).toArray) H (fun v H' => K (ρ.put n o.dst v) H') (fun _ _ => False)
  | .call ⟨.value f, args, _⟩ => callV P (ρ.ev f) (args.toList.map ρ.ev) H (fun v H' => K (ρ.put n o.dst v) H') (fun c H' => Q (.panic c) ρ H')
  | .call ⟨.invoke r m, args, _⟩ => invW P (ρ.ev r) m (args.toList.map ρ.ev) H (fun v H' => K (ρ.put n o.dst v) H') (fun c H' => Q (.panic c) ρ H')
  | .panic x => panW (ρ.ev x) fun v => Q (.panic [{ v, recovered := false }]) ρ H
  | op => someW (opQ P (full H) ρ.ev op) fun v => K (ρ.put n o.dst v) H

theorem opWp_call {n : Nat} {P : Program} {dst : Option Nat} {f : Operand} {args : Array Operand} {ats : Array TypeId} {ty : TypeId} {pos : String} {after : Array Edge} {guard : Option (Nat × Bool)} {ρ : En} {H : Heap}
    {K : En → Heap → Prop} {Q : Exit → En → Heap → Prop}
    (h : callV P (ρ.ev f) (args.toList.map ρ.ev) H (fun v H' => K (ρ.put n dst v) H') (fun c H' => Q (.panic c) ρ H')) :
    opWp n P ⟨dst, .call ⟨.value f, args, ats⟩, ty, pos, after, guard⟩ ρ H K Q := by
  unfold callV at h
  split at h
  · rename_i g first captured hf
    have e : execOp ρ.ev ⟨dst, .call ⟨.value f, args, ats⟩, ty, pos, after, guard⟩ = callFunc g (first ++ args.map ρ.ev ++ captured) := by
      unfold execOp resolve
      simp only [hf]
      rfl
    have e2 : (first ++ args.map ρ.ev ++ captured) = (first.toList ++ args.toList.map ρ.ev ++ captured.toList).toArray := by
      apply Array.ext'; simp
    unfold opWp
    rw [e, e2]
    refine hwp_mono P _ _ _ _ _ _ ?_ (fun v H' hx => hx) h
    intro nx H' hx
    cases nx <;> first | exact hx | exact hx.elim
  · exact h.elim

theorem opV_op {n : Nat} {P : Program} {o : Oper} {ρ : En} {H : Heap} {K : En → Heap → Prop} {Q : Exit → En → Heap → Prop} (h : opV n P o ρ H K Q) : opWp n P o ρ H K Q := by
  have quiet : ∀ o : Oper, (someW (opQ P (full H) ρ.ev o.op) fun v => K (ρ.put n o.dst v) H) → opWp n P o ρ H K Q := by
    intro o h
    rw [someW_iff] at h
    obtain ⟨v, hv, hk⟩ := h
    exact hwp_of_qrun P _ H _ _ _ (opQ_sound (full_of H) hv) hk
  obtain ⟨dst, op, type, pos, after, guard⟩ := o
  unfold opV at h
  simp only at h
  split at h
  · rename_i t a x
    unfold ptrW at h
    split at h
    · rename_i ad ha
      rw [withV, someW_iff] at h
      obtain ⟨H', hs, hk⟩ := h
      unfold opWp
      simp only [execOp, ha]
      rw [hwp_bind']
      exact hwp_storeAt hs hk
    · exact h.elim
  · rename_i t
    rw [someW_iff] at h
    obtain ⟨z, hz, hk⟩ := h
    unfold opWp
    simp only [execOp, Instr.alloc]
    rw [hwp_bind']
    refine hwp_qbind (qrun_zeroValue hz H) ?_
    exact hk
  · exact h
  · rename_i t l c
    rw [someW_iff] at h
    obtain ⟨⟨r, H'⟩, hm, hk⟩ := h
    unfold opWp
    simp only [execOp]
    rw [hwp_bind']
    exact hwp_makeSlice hm hk
  · rename_i t len parts
    rw [someW_iff] at h
    obtain ⟨⟨r, H'⟩, hm, hk⟩ := h
    unfold opWp
    simp only [execOp]
    rw [hwp_bind']
    have e : (parts.map fun x => (x.1, ρ.ev x.2)) = (parts.toList.map fun p => (p.1, ρ.ev p.2)).toArray := by apply Array.ext'; simp
    show hwp P (Instr.buildSlice t len (parts.map fun x => (x.1, ρ.ev x.2))) H _ _
    rw [e]
    exact hwp_buildSlice hm hk
  · exact h
  · unfold opWp
    simp only [execOp]
    rw [hwp_bind']
    exact h
  · unfold opWp
    simp only [execOp]
    rw [hwp_bind']
    exact h
  · rename_i args ats
    split at h
    · rename_i t xt s x ht hx
      have e1 : ats = #[t, xt] := by apply Array.ext'; simp [ht]
      have e2 : args = #[s, x] := by apply Array.ext'; simp [hx]
      subst e1 e2
      unfold opWp
      have e3 : execOp ρ.ev ⟨dst, .call ⟨.builtin .append, #[s, x], #[t, xt]⟩, type, pos, after, guard⟩ = (do pure (Next.value (← Builtin.append_ #[t, xt] type (#[s, x].map ρ.ev)))) := rfl
      have e4 : #[s, x].map ρ.ev = #[ρ.ev s, ρ.ev x] := by simp
      rw [e3, e4, hwp_bind']
      exact hwp_append h
    · exact h.elim
  · rename_i args ats
    unfold opWp
    have e3 : execOp ρ.ev ⟨dst, .call ⟨.builtin .unsafeSliceData, args, ats⟩, type, pos, after, guard⟩ = (do pure (Next.value (← Builtin.unsafeSliceData_ ats type (args.map ρ.ev)))) := rfl
    have e4 : args.map ρ.ev = (args.toList.map ρ.ev).toArray := by apply Array.ext'; simp
    rw [e3, e4, hwp_bind']
    exact hwp_mono P _ _ _ _ _ _ (fun v H' hx => hx) (fun v H' hx => hx.elim) h
  · rename_i args ats
    unfold opWp
    have e3 : execOp ρ.ev ⟨dst, .call ⟨.builtin .unsafeString, args, ats⟩, type, pos, after, guard⟩ = (do pure (Next.value (← Builtin.unsafeString_ ats type (args.map ρ.ev)))) := rfl
    have e4 : args.map ρ.ev = (args.toList.map ρ.ev).toArray := by apply Array.ext'; simp
    rw [e3, e4, hwp_bind']
    exact hwp_mono P _ _ _ _ _ _ (fun v H' hx => hx) (fun v H' hx => hx.elim) h
  · rename_i args ats
    unfold opWp
    have e3 : execOp ρ.ev ⟨dst, .call ⟨.builtin .clear, args, ats⟩, type, pos, after, guard⟩ = (do pure (Next.value (← Builtin.clear_ ats type (args.map ρ.ev)))) := rfl
    have e4 : args.map ρ.ev = (args.toList.map ρ.ev).toArray := by apply Array.ext'; simp
    rw [e3, e4, hwp_bind']
    exact hwp_mono P _ _ _ _ _ _ (fun v H' hx => hx) (fun v H' hx => hx.elim) h
  · exact opWp_call h
  · rename_i r m args ats
    unfold opWp
    have e : execOp ρ.ev ⟨dst, .call ⟨.invoke r m, args, ats⟩, type, pos, after, guard⟩ = callMethod (ρ.ev r) m (args.toList.map ρ.ev).toArray := by
      show (do let d ← (pure { target := .fn (.method m) #[], args := #[ρ.ev r] ++ args.map ρ.ev } : Sem Deferred); invoke d.target d.args) = _
      show invoke (.fn (.method m) #[]) (#[ρ.ev r] ++ args.map ρ.ev) = _
      have e1 : (#[ρ.ev r] ++ args.map ρ.ev)[0]? = some (ρ.ev r) := by rw [Array.getElem?_append]; rfl
      have e2 : (#[ρ.ev r] ++ args.map ρ.ev).extract 1 (#[ρ.ev r] ++ args.map ρ.ev).size = (args.toList.map ρ.ev).toArray := by apply Array.ext'; simp; exact List.take_of_length_le (by simp)
      unfold invoke
      simp only [e1, e2]
    rw [e]
    refine hwp_mono P _ _ _ _ _ _ ?_ (fun v H' hx => hx) h
    intro nx H' hx
    cases nx <;> first | exact hx | exact hx.elim
  · rename_i x
    unfold panW at h
    split at h
    · rename_i t u hx
      unfold opWp
      show hwp P (do pure (Next.value (← Instr.panic (ρ.ev x)))) H _ _
      rw [hx]
      exact h
    · exact h.elim
  · exact quiet _ h

theorem opV_sound {n : Nat} {P : Program} {o : Oper} {ρ : En} {K : En → Heap → Prop} {Q : Exit → En → Heap → Prop} {w0 w : World} {a : Act}
    (h0 : Rest w0 w) (ha : Ag n a ρ) (h : opV n P o ρ w.heap K Q) : o.wp P a w (up n w0 K) (upQ n w0 Q) := opWp_sound h0 ha (opV_op h)

end Go.HL

namespace Go.HL

/-- What the operation number j has left in its slot. -/
def slotOf (ops : Array Oper) (ρ : En) (j : Nat) : Value :=
  match (ops[j]?).bind (·.dst) with
  | some d => ρ.get d
  | none => undef
def guardW (v : Value) (want : Bool) (p q : Prop) : Prop :=
  match v with
  | .bool b => (b = want → p) ∧ (b = (!want) → q)
  | _ => q
def yieldV : Value → Option Bool
  | .bool b => some b
  | _ => none
theorem yield_eq {n : Nat} {a : Act} {ρ : En} (h : Ag n a ρ) (ops : Array Oper) (j : Nat) : yielded ops a.tmps j = yieldV (slotOf ops ρ j) := by
  unfold yielded slotOf
  cases (ops[j]?).bind (·.dst) with
  | none => rfl
  | some d =>
    have ht := h.2.1 d
    rw [Array.getD_eq_getD_getElem?] at ht
    simp only [Option.bind_some]
    rw [← ht]
    cases hv : a.tmps[d]? with
    | none => rfl
    | some v => cases v <;> rfl

/-- The condition of one operation, with its guard. -/
def opG (n : Nat) (P : Program) (ops : Array Oper) (o : Oper) (ρ : En) (H : Heap) (K : En → Heap → Prop) (Q : Exit → En → Heap → Prop) : Prop :=
  match o.guard with
  | none => opV n P o ρ H K Q
  | some (j, want) => guardW (slotOf ops ρ j) want (opV n P o ρ H K Q) (K (ρ.put n o.dst undef) H)

theorem opG_sound {n : Nat} {P : Program} {ops : Array Oper} {o : Oper} {ρ : En} {K : En → Heap → Prop} {Q : Exit → En → Heap → Prop} {w0 w : World} {a : Act}
    (h0 : Rest w0 w) (ha : Ag n a ρ) (h : opG n P ops o ρ w.heap K Q) :
    if Region.wanted o (yielded ops a.tmps) then o.wp P a w (up n w0 K) (upQ n w0 Q) ∨ (o.asks P a w ∧ LetsOut (upQ n w0 Q)) else up n w0 K (a.put o.dst undef) w := by
  unfold opG at h
  unfold Region.wanted
  cases hg : o.guard with
  | none =>
    rw [hg] at h
    simp only [if_true]
    exact .inl (opV_sound h0 ha h)
  | some g =>
    obtain ⟨j, want⟩ := g
    rw [hg] at h
    simp only [yield_eq ha]
    simp only [guardW] at h
    generalize slotOf ops ρ j = v at h
    cases v with
    | bool b =>
      by_cases hb : b = want
      · have e : (yieldV (.bool b) == some want) = true := by subst hb; simp [yieldV]
        rw [if_pos e]
        exact .inl (opV_sound h0 ha (h.1 hb))
      · have hb' : b = !want := by cases b <;> cases want <;> simp_all
        have e : ¬ (yieldV (.bool b) == some want) = true := by simp [yieldV, hb]
        rw [if_neg e]
        exact ⟨h0, _, ha.put _ _, h.2 hb'⟩
    | _ => exact ⟨h0, _, ha.put _ _, h⟩

def opsWp (n : Nat) (P : Program) (ops : Array Oper) (Q : Exit → En → Heap → Prop) : List Oper → En → Heap → Prop
  | [], ρ, H => Q .normal ρ H
  | o :: rest, ρ, H => opG n P ops o ρ H (opsWp n P ops Q rest) Q

theorem opsWp_sound {n : Nat} {P : Program} {ops : Array Oper} {Q : Exit → En → Heap → Prop} {w0 : World} :
    ∀ (l : List Nat) (ol : List Oper), l.map (ops[·]?) = ol.map some → ∀ (ρ : En) (w : World) (a : Act), Rest w0 w → Ag n a ρ → opsWp n P ops Q ol ρ w.heap →
      wpOps P ops (upQ n w0 Q) l a w := by
  intro l
  induction l with
  | nil =>
    intro ol hol ρ w a h0 ha h
    cases ol with
    | nil => exact ⟨h0, _, ha, h⟩
    | cons _ _ => simp at hol
  | cons i l ih =>
    intro ol hol ρ w a h0 ha h
    cases ol with
    | nil => simp at hol
    | cons o ol =>
      simp only [List.map_cons, List.cons.injEq] at hol
      obtain ⟨ho, hol⟩ := hol
      rw [wpOps_cons]
      unfold wpOp
      rw [ho]
      have h' := opG_sound h0 ha h
      simp only
      split
      · rename_i hw
        rw [if_pos hw] at h'
        exact h'.imp (Oper.wp_mono (fun a' w' ⟨hr, ρ', ha', hk⟩ => ih ol hol ρ' w' a' hr ha' hk)) id
      · rename_i hw
        rw [if_neg hw] at h'
        obtain ⟨hr, ρ', ha', hk⟩ := h'
        exact ih ol hol ρ' w _ hr ha' hk

def seqQ (K : En → Heap → Prop) (Q : Exit → En → Heap → Prop) : Exit → En → Heap → Prop
  | .normal, ρ, H => K ρ H
  | e, ρ, H => Q e ρ H
def blkQ (id : Nat) (Q : Exit → En → Heap → Prop) : Exit → En → Heap → Prop
  | .exit i, ρ, H => if i = id then Q .normal ρ H else Q (.exit i) ρ H
  | e, ρ, H => Q e ρ H
def condW (v : Value) (p q : Prop) : Prop :=
  match v with
  | .bool b => (b = true → p) ∧ (b = false → q)
  | _ => False

def CW (n : Nat) (P : Program) (c : Code) (Q : Exit → En → Heap → Prop) (ρ : En) (H : Heap) : Prop :=
  ∀ (w0 w : World) (a : Act), Rest w0 w → w.heap = H → Ag n a ρ → c.wp P (upQ n w0 Q) a w

def cw (n : Nat) (P : Program) : Code → (Exit → En → Heap → Prop) → En → Heap → Prop
  | .skip, Q, ρ, H => Q .normal ρ H
  | .region _ ops false, Q, ρ, H => opsWp n P ops Q ops.toList ρ H
  | .seq x y, Q, ρ, H => cw n P x (seqQ (cw n P y Q) Q) ρ H
  | .cond c x y, Q, ρ, H => condW (ρ.ev c) (cw n P x Q ρ H) (cw n P y Q ρ H)
  | .block id c, Q, ρ, H => cw n P c (blkQ id Q) ρ H
  | .exit id, Q, ρ, H => Q (.exit id) ρ H
  | .ret, Q, ρ, H => Q .ret ρ H
  | .label _, Q, ρ, H => Q .normal ρ H
  | c, Q, ρ, H => CW n P c Q ρ H

theorem CW.mono {n : Nat} {P : Program} {c : Code} {Q Q' : Exit → En → Heap → Prop} {ρ : En} {H : Heap} (hq : ∀ e ρ H, Q e ρ H → Q' e ρ H) (h : CW n P c Q ρ H) : CW n P c Q' ρ H :=
  fun w0 w a h0 hw ha => wp_mono (h w0 w a h0 hw ha) fun _ _ _ ⟨hr, ρ', ha', hx⟩ => ⟨hr, ρ', ha', hq _ _ _ hx⟩

theorem cw_sound {n : Nat} {P : Program} (c : Code) : ∀ (Q : Exit → En → Heap → Prop) (ρ : En) (H : Heap), cw n P c Q ρ H → CW n P c Q ρ H := by
  induction c with
  | skip => intro Q ρ H h w0 w a h0 hw ha; subst hw; exact wp_skip ⟨h0, _, ha, h⟩
  | region id ops draw =>
    intro Q ρ H h w0 w a h0 hw ha
    subst hw
    cases draw with
    | true => exact h w0 w a h0 rfl ha
    | false =>
      refine wp_region (opsWp_sound _ ops.toList ?_ ρ w a h0 ha h)
      apply List.ext_getElem?
      intro i
      simp only [List.getElem?_map]
      by_cases hi : i < ops.size
      · simp [hi]
      · simp [hi]
  | seq x y ihx ihy =>
    intro Q ρ H h w0 w a h0 hw ha
    refine wp_seq (wp_mono (ihx _ _ _ h w0 w a h0 hw ha) ?_)
    rintro e a' w' ⟨hr, ρ', ha', hx⟩
    cases e with
    | normal => exact ihy Q ρ' w'.heap hx w0 w' a' hr rfl ha'
    | _ => exact ⟨hr, ρ', ha', hx⟩
  | cond c x y ihx ihy =>
    intro Q ρ H h w0 w a h0 hw ha
    simp only [cw] at h
    cases hv : ρ.ev c with
    | bool b =>
      rw [hv] at h
      refine wp_cond (t := b) (by rw [ha.ev]; exact hv) ?_
      cases b with
      | true => exact ihx Q ρ H (h.1 rfl) w0 w a h0 hw ha
      | false => exact ihy Q ρ H (h.2 rfl) w0 w a h0 hw ha
    | _ => rw [hv] at h; exact h.elim
  | block id c ih =>
    intro Q ρ H h w0 w a h0 hw ha
    refine wp_block (wp_mono (ih _ _ _ h w0 w a h0 hw ha) ?_)
    rintro e a' w' ⟨hr, ρ', ha', hx⟩
    cases e with
    | exit i =>
      simp only [blkQ] at hx
      simp only [Exit.inBlock]
      split <;> rename_i hi
      · rw [if_pos hi] at hx; exact ⟨hr, ρ', ha', hx⟩
      · rw [if_neg hi] at hx; exact ⟨hr, ρ', ha', hx⟩
    | _ => exact ⟨hr, ρ', ha', hx⟩
  | exit id => intro Q ρ H h w0 w a h0 hw ha; subst hw; exact wp_exit ⟨h0, _, ha, h⟩
  | ret => intro Q ρ H h w0 w a h0 hw ha; subst hw; exact wp_ret ⟨h0, _, ha, h⟩
  | label l => intro Q ρ H h w0 w a h0 hw ha; subst hw; exact wp_label ⟨h0, _, ha, h⟩
  | _ => intro Q ρ H h; exact h

/-- A loop: what holds at the head of a round with at most k rounds to come. -/
theorem cw_loop {n : Nat} {P : Program} {c : Code} {Q : Exit → En → Heap → Prop} (I : Nat → En → Heap → Prop)
    (round : ∀ k ρ H, I k ρ H → cw n P c (seqQ (fun ρ' H' => ∃ k', k' < k ∧ I k' ρ' H') Q) ρ H)
    {k : Nat} {ρ : En} {H : Heap} (h0 : I k ρ H) : CW n P (.loop c) Q ρ H := by
  intro w0 w a hr hw ha
  subst hw
  refine wp_loop_rounds (k + 1) ?_
  have key : ∀ m k, k < m → ∀ ρ (w : World) (a : Act), Rest w0 w → Ag n a ρ → I k ρ w.heap → Code.rounds P c (upQ n w0 Q) m a w := by
    intro m
    induction m with
    | zero => intro k hk; omega
    | succ m ih =>
      intro k hk ρ w a hr ha hi
      rw [rounds_succ]
      refine wp_mono (cw_sound c _ _ _ (round k ρ w.heap hi) w0 w a hr rfl ha) ?_
      rintro e a' w' ⟨hr', ρ', ha', hx⟩
      cases e with
      | normal =>
        obtain ⟨k', hk', hi'⟩ := hx
        exact ih k' (by omega) ρ' w' a' hr' ha' hi'
      | _ => exact ⟨hr', ρ', ha', hx⟩
  exact key (k + 1) k (by omega) ρ w a hr ha h0

/-! ### Results, and a function's body -/
def resF (ρ : En) : ResultVar → Sem Value
  | .tmp t => pure (ρ.get t)
  | .cell a t => do loadVar t (← asAddr (ρ.get a))
def resE (fn : Func) (ρ : En) : Sem Value := do
  let vs ← fn.results.mapM (resF ρ)
  pure (if h : vs.size = 1 then vs[0] else .tuple vs)
theorem resE_eq {n : Nat} {a : Act} {ρ : En} (h : Ag n a ρ) (fn : Func) : results fn a.tmps = resE fn ρ := by
  unfold results resE
  congr 1
  congr 1
  funext x
  cases x with
  | tmp t => simp only [h.2.1 t]; rfl
  | cell b t => simp only [h.2.1 b]; rfl

def bodyQ (P : Program) (fn : Func) (R : Value → Heap → Prop) (E : List PanicEntry → Heap → Prop) : Exit → En → Heap → Prop
  | .normal, ρ, H | .ret, ρ, H => ρ.ds = [] ∧ ∃ v, qrun P (resE fn ρ) H = some v ∧ R v H
  | .panic c, ρ, H => ρ.ds = [] ∧ E c H
  | _, _, _ => False

def enArgs (args : Array Value) : En := { get := fun t => args.getD t undef, ds := [] }

theorem hcalls_of {P : Program} {f : FuncId} {fn : Func} {c : Code} {args : Array Value} {H : Heap} {R : Value → Heap → Prop} {E : List PanicEntry → Heap → Prop}
    (hf : P.funcs[f]? = some fn) (hb : fn.body = some c) (hs : args.size ≤ fn.ntmps)
    (h : CW fn.ntmps P c (bodyQ P fn R E) (enArgs args) H) : HCalls P f args H R E := by
  intro w hw
  refine calls_of_wp hf hb ?_
  refine wp_mono (h w w _ (Rest.refl w) hw ⟨?_, fun t => ?_, rfl⟩) ?_
  · simp; omega
  · simp only [enArgs]
    rw [Array.getD_eq_getD_getElem?, Array.getD_eq_getD_getElem?, Array.getElem?_append]
    split
    · rfl
    · rename_i ht
      rw [Array.getElem?_eq_none (xs := args) (by omega), Array.getElem?_replicate]
      split <;> rfl
  · rintro e a' w' ⟨hr, ρ', ha', hx⟩
    cases e with
    | normal =>
      obtain ⟨hd, v, hv, hR⟩ := hx
      exact ⟨ha'.2.2.trans hd, v, by rw [resE_eq ha']; exact qrun_sound P _ w' v hv, hr, hR⟩
    | ret =>
      obtain ⟨hd, v, hv, hR⟩ := hx
      exact ⟨ha'.2.2.trans hd, v, by rw [resE_eq ha']; exact qrun_sound P _ w' v hv, hr, hR⟩
    | panic ch => exact ⟨ha'.2.2.trans hx.1, hr, hx.2⟩
    | _ => exact hx.elim

end Go.HL

