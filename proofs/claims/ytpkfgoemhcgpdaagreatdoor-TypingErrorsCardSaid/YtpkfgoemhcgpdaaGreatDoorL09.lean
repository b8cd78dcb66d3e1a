/- Where a place in a text is: line and column, the program's way and the document's. -/
import Derived.Test.YtpkfgoemhcgpdaaGreatDoorL08
import Derived.Test.YtpkfgoemhcgpdaaGreatDoorL07
import Derived.Lib.Bytealg
import Derived.Stop.Asserts
namespace Go.HL
theorem qrun_count {P : Program} {H : Heap} {s : Str} {c : Int} : qrun P (Extern.BytealgCount.count #[sv s, .int .u8 c]) H = some (.int .i64 (s.count c.toNat.toUInt8)) := by
  show qrun P (do
    let b ← Extern.Bytes.bytesOf (.string (bs s))
    let c' ← Extern.Bytes.asByte (.int .u8 c)
    pure (goInt (b.foldl (fun n x => if x == c' then n + 1 else n) (0 : Nat)))) H = _
  simp only [Extern.Bytes.bytesOf, Extern.Bytes.asByte, qrun_bind', pure, qrun, Option.bind_some]
  rw [Lib.foldl_data, Lib.count_foldl]
  simp [goInt, bs, Lib.countByte]
end Go.HL
namespace Go.Proofs.YtpkfgoemhcgpdaaGreatDoor
open Go.HL
set_option maxRecDepth 10000
set_option linter.unusedSimpArgs false
set_option linter.unusedVariables false

/-! ### The plain law -/
def stepP (p : Nat × Nat) (b : UInt8) : Nat × Nat := if b = 10 then (p.1 + 1, 1) else (p.1, p.2 + 1)
/-- Line and column behind a text. -/
def refP (s : Str) : Nat × Nat := s.foldl stepP (1, 1)
theorem refP_snoc {s : Str} {b : UInt8} : refP (s ++ [b]) = stepP (refP s) b := by unfold refP; rw [List.foldl_append]; rfl
/-- The place of the last end of a line; -1: there is none. -/
def LastP (s : Str) (r : Int) : Prop := -1 ≤ r ∧ r < s.length ∧ (r ≠ -1 → s[r.toNat]? = some 10) ∧ ∀ j : Nat, r < j → j < s.length → s[j]? ≠ some 10
theorem snocI {p : Str → Prop} (h0 : p []) (h1 : ∀ s b, p s → p (s ++ [b])) (s : Str) : p s := by
  have : ∀ n (s : Str), s.length = n → p s := by
    intro n
    induction n with
    | zero => intro s hs; have : s = [] := List.eq_nil_of_length_eq_zero hs; subst this; exact h0
    | succ n ih =>
      intro s hs
      have hne : s ≠ [] := by intro h; subst h; simp at hs
      rw [← List.dropLast_concat_getLast hne]
      exact h1 _ _ (ih _ (by simp [hs]))
  exact this _ s rfl
theorem refP_line (s : Str) : (refP s).1 = 1 + s.count 10 := by
  refine snocI (p := fun s => (refP s).1 = 1 + s.count 10) rfl ?_ s
  intro s b ih
  rw [refP_snoc, List.count_append]
  unfold stepP
  by_cases h : b = 10
  · rw [if_pos h, h]; simp [ih]; omega
  · rw [if_neg h]; simp [ih, List.count_cons, h]
theorem refP_col (s : Str) : ∀ r, LastP s r → ((refP s).2 : Int) = s.length - r := by
  refine snocI (p := fun s => ∀ r, LastP s r → ((refP s).2 : Int) = s.length - r) ?_ ?_ s
  · rintro r ⟨h1, h2, _, _⟩
    simp only [List.length_nil] at h2
    show ((1 : Nat) : Int) = _
    simp only [List.length_nil]
    omega
  · rintro s b ih r ⟨h1, h2, h3, h4⟩
    rw [refP_snoc]
    unfold stepP
    simp only [List.length_append, List.length_cons, List.length_nil] at h2 h4 ⊢
    by_cases h : b = 10
    · rw [if_pos h]
      have hr : ¬ r < s.length := by
        intro hlt
        refine h4 s.length (by omega) (by omega) ?_
        simp [h]
      show ((1 : Nat) : Int) = _
      omega
    · rw [if_neg h]
      have hr : r ≠ s.length := by
        intro e
        have := h3 (by omega)
        rw [e] at this
        simp at this
        exact h this
      have := ih r ⟨h1, by omega, fun hn => by
        have h5 := h3 hn
        rwa [List.getElem?_append_left (by omega)] at h5, fun j hj hl => by
        have h5 := h4 j hj (by omega)
        rwa [List.getElem?_append_left hl] at h5⟩
      show (((refP s).2 + 1 : Nat) : Int) = _
      omega
theorem refP_le (s : Str) : 1 ≤ (refP s).1 ∧ (refP s).1 ≤ 1 + s.length ∧ 1 ≤ (refP s).2 ∧ (refP s).2 ≤ 1 + s.length := by
  refine snocI (p := fun s => 1 ≤ (refP s).1 ∧ (refP s).1 ≤ 1 + s.length ∧ 1 ≤ (refP s).2 ∧ (refP s).2 ≤ 1 + s.length) (by simp [refP]) ?_ s
  intro s b ih
  rw [refP_snoc, List.length_append]
  unfold stepP
  simp only [List.length_cons, List.length_nil]
  split
  · simp only; omega
  · simp only; omega
/-- How far a place reaches into a text. -/
def reach (s : Str) (a : Int) : Nat := (min (max a 0) s.length).toNat
theorem reach_le {s : Str} {a : Int} : reach s a ≤ s.length := by unfold reach; omega

/-! ### The walks -/
section
variable {H : Heap}
theorem lastIdx_spec {s : Str} (hs : s.length ≤ 1000000) : CallF Tryz.prog 51 [sv s, .int .u8 10] H (fun r H' => H = H' ∧ ∃ z, r = iv z ∧ LastP s z) NoP := by
  refine callF_of Tryz.func51 rfl Tryz.ntmps51 Tryz.results51 (by decide) rfl ?_
  simp (disch := omega) only [go_sem, ↓cw_block, dsB_of]
  refine loop_by (fun k ρ H2 => H = H2 ∧ k ≤ s.length ∧ ρ.get 0 = sv s ∧ ρ.get 1 = .int .u8 10 ∧ ρ.get 5 = iv ((k : Int) - 1) ∧ (∀ j : Nat, k ≤ j → j < s.length → s[j]? ≠ some 10) ∧ ρ.ds = []) (k := s.length) ?_ ?_
  · simp (disch := omega) only [go_sem, ↓cw_block, dsB_of]
    exact ⟨by omega, fun j h1 h2 => by omega⟩
  · rintro k ρ H2 ⟨rfl, hk, g0, g1, g5, hj, gd⟩
    cases k with
    | zero =>
      have e : ((0 : Nat) : Int) - 1 = -1 := by omega
      rw [e] at g5
      simp (disch := omega) only [go_sem, ↓cw_block, dsB_of, g0, g1, g5]
      exact fin ⟨rfl, -1, rfl, by omega, by omega, fun h => absurd rfl h, fun j h1 h2 => hj j (by omega) h2⟩
    | succ k =>
      have e : ((k + 1 : Nat) : Int) - 1 = (k : Int) := by omega
      rw [e] at g5
      have hb := bt8_lt (show k < s.length by omega)
      by_cases h : bt8 s k = 10
      · have h' : ((bt8 s k).toNat : Int) = 10 := by rw [h]; rfl
        simp (disch := omega) only [go_sem, ↓cw_block, dsB_of, g0, g1, g5, h']
        exact fin ⟨rfl, k, rfl, by omega, by omega, fun _ => by rw [Int.toNat_natCast, hb, h], fun j h1 h2 => hj j (by omega) h2⟩
      · have h' : ¬ ((bt8 s k).toNat : Int) = 10 := by
          intro e
          apply h
          apply UInt8.toNat_inj.1
          have : (bt8 s k).toNat = 10 := by omega
          rw [this]; rfl
        simp (disch := omega) only [go_sem, ↓cw_block, dsB_of, g0, g1, g5, h']
        refine fin ⟨k, by omega, rfl, ?_⟩
        simp (disch := omega) only [go_sem, ↓cw_block, dsB_of, g0, g1, g5]
        refine ⟨by omega, fun j h1 h2 => ?_, gd⟩
        by_cases hjk : j = k
        · subst hjk; rw [hb]; simpa using h
        · exact hj j (by omega) h2
theorem count_spec {s : Str} (hs : s.length ≤ 1000000) : CallF Tryz.prog 29 [sv s, sv [10]] H (fun r H' => H = H' ∧ r = iv (s.count 10)) NoP := by
  have hx : ∀ R E, R (iv (s.count 10)) H → CallF Tryz.prog 49 [sv s, .int .u8 10] H R E := fun R E hR =>
    callF_ext Tryz.func49 (by kernel_rfl) (by kernel_rfl) (by kernel_rfl) (e := Extern.BytealgCount.count) (by kernel_rfl) qrun_count hR
  have hl : ((([10] : Str).length : Nat) : Int) = 1 := rfl
  have hb : u8v (bt8 [10] 0) = .int .u8 10 := rfl
  refine callF_of Tryz.func29 rfl Tryz.ntmps29 Tryz.results29 (by decide) rfl ?_
  simp (disch := omega) only [go_sem, ↓cw_block, dsB_of, hl, hb]
  refine call_to (hx (fun r H' => H = H' ∧ r = iv (s.count 10)) NoP ⟨rfl, rfl⟩) ?_
  rintro _ _ ⟨rfl, rfl⟩
  simp (disch := omega) only [go_sem, ↓cw_block, dsB_of]
  exact fin ⟨rfl, rfl⟩
theorem lastB_spec {s : Str} (hs : s.length ≤ 1000000) : CallF Tryz.prog 30 [sv s, .int .u8 10] H (fun r H' => H = H' ∧ ∃ z, r = iv z ∧ LastP s z) NoP := by
  refine callF_of Tryz.func30 rfl Tryz.ntmps30 Tryz.results30 (by decide) rfl ?_
  simp (disch := omega) only [go_sem, ↓cw_block, dsB_of]
  refine call_to (lastIdx_spec hs) ?_
  rintro _ _ ⟨rfl, z, rfl, hz⟩
  simp (disch := omega) only [go_sem, ↓cw_block, dsB_of]
  exact fin ⟨rfl, z, rfl, hz⟩
theorem place_spec {s : Str} {a : Int} (hs : s.length ≤ 1000000) (ha : -9223372036854775808 ≤ a ∧ a ≤ 9223372036854775807) : CallF Tryz.prog 13 [sv s, iv a] H (fun r H' => H = H' ∧ r = .tuple #[iv (refP (s.take (reach s a))).1, iv (refP (s.take (reach s a))).2]) NoP := by
  have hr := reach_le (s := s) (a := a)
  have e : (min (max a 0) (s.length : Int)).toNat = reach s a := rfl
  have hlen : (s.take (reach s a)).length = reach s a := by simp [hr]
  have hle := refP_le (s.take (reach s a))
  have h1 := refP_line (s.take (reach s a))
  have hc := List.count_le_length (a := (10 : UInt8)) (l := s.take (reach s a))
  refine callF_of Tryz.func13 rfl Tryz.ntmps13 Tryz.results13 (by decide) rfl ?_
  simp (disch := omega) only [go_sem, ↓cw_block, dsB_of, e]
  refine call_to (count_spec (s := s.take (reach s a)) (by omega)) ?_
  rintro _ _ ⟨rfl, rfl⟩
  simp (disch := omega) only [go_sem, ↓cw_block, dsB_of]
  refine call_to (lastB_spec (s := s.take (reach s a)) (by omega)) ?_
  rintro _ _ ⟨rfl, z, rfl, hz⟩
  have h2 := refP_col _ z hz
  obtain ⟨z1, z2, _, _⟩ := hz
  simp (disch := omega) only [go_sem, ↓cw_block, dsB_of]
  have e1 : (((refP (s.take (reach s a))).1 : Nat) : Int) = 1 + (List.count 10 (s.take (reach s a)) : Nat) := by omega
  exact fin ⟨rfl, by rw [e1, h2]⟩
theorem rPlace_spec {s : Str} {a : Int} (hs : s.length ≤ 1000000) (ha : -9223372036854775808 ≤ a ∧ a ≤ 9223372036854775807) : CallF Tryz.prog 21 [sv s, iv a] H (fun r H' => H = H' ∧ r = .tuple #[iv (refP (s.take (reach s a))).1, iv (refP (s.take (reach s a))).2]) NoP := by
  have hr := reach_le (s := s) (a := a)
  have hlt : ∀ i : Nat, i < reach s a ↔ (i : Int) < a ∧ i < s.length := by intro i; unfold reach; omega
  refine callF_of Tryz.func21 rfl Tryz.ntmps21 Tryz.results21 (by decide) rfl ?_
  simp (disch := omega) only [go_sem, ↓cw_block, dsB_of]
  refine loop_by (fun k ρ H2 => ∃ i : Nat, k = reach s a - i ∧ i ≤ reach s a ∧ H = H2 ∧ ρ.get 0 = sv s ∧ ρ.get 1 = iv a ∧ ρ.get 6 = iv (refP (s.take i)).1 ∧ ρ.get 7 = iv (refP (s.take i)).2 ∧ ρ.get 8 = iv i ∧ ρ.ds = []) (k := reach s a) ?_ ?_
  · refine fin ⟨0, by omega, by omega, rfl, ?_⟩
    simp (disch := omega) only [go_sem, ↓cw_block, dsB_of]
    exact ⟨rfl, rfl⟩
  · rintro k ρ H2 ⟨i, rfl, hi, rfl, g0, g1, g6, g7, g8, gd⟩
    have hle := refP_le (s.take i)
    have hlen : (s.take i).length = i := by simp; omega
    by_cases h : i < reach s a
    · obtain ⟨h1, h2⟩ := (hlt i).1 h
      have hb := bt8_lt h2
      have et : s.take (i + 1) = s.take i ++ [bt8 s i] := by
        rw [List.take_add_one, hb]; rfl
      have est := refP_snoc (s := s.take i) (b := bt8 s i)
      rw [← et] at est
      unfold stepP at est
      by_cases hn : bt8 s i = 10
      · have hn' : ((bt8 s i).toNat : Int) = 10 := by rw [hn]; rfl
        rw [if_pos hn] at est
        simp (disch := omega) only [go_sem, ↓cw_block, dsB_of, g0, g1, g6, g7, g8, h1, h2, hn']
        refine fin ⟨reach s a - (i + 1), by omega, i + 1, rfl, by omega, rfl, ?_⟩
        rw [est]
        simp (disch := omega) only [go_sem, ↓cw_block, dsB_of, g0, g1, g6, g7, g8]
        exact ⟨rfl, rfl, rfl, gd⟩
      · have hn' : ¬ ((bt8 s i).toNat : Int) = 10 := by
          intro e
          apply hn
          apply UInt8.toNat_inj.1
          have : (bt8 s i).toNat = 10 := by omega
          rw [this]; rfl
        rw [if_neg hn] at est
        simp (disch := omega) only [go_sem, ↓cw_block, dsB_of, g0, g1, g6, g7, g8, h1, h2, hn']
        refine fin ⟨reach s a - (i + 1), by omega, i + 1, rfl, by omega, rfl, ?_⟩
        rw [est]
        simp (disch := omega) only [go_sem, ↓cw_block, dsB_of, g0, g1, g6, g7, g8]
        exact ⟨rfl, rfl, gd⟩
    · have hir : i = reach s a := by omega
      have h12 : ¬ ((i : Int) < a ∧ i < s.length) := fun h' => h ((hlt i).2 h')
      by_cases h1 : (i : Int) < a
      · have h2 : ¬ ((i : Nat) : Int) < (s.length : Int) := by omega
        simp (disch := omega) only [go_sem, ↓cw_block, dsB_of, g0, g1, g6, g7, g8, h1, h2]
        exact fin ⟨rfl, by rw [hir]⟩
      · simp (disch := omega) only [go_sem, ↓cw_block, dsB_of, g0, g1, g6, g7, g8, h1]
        exact fin ⟨rfl, by rw [hir]⟩
end
end Go.Proofs.YtpkfgoemhcgpdaaGreatDoor

namespace Go.Proofs.YtpkfgoemhcgpdaaGreatDoor
open Go.HL Go.Extern
set_option maxRecDepth 10000
set_option linter.unusedSimpArgs false
set_option linter.unusedVariables false
section
variable {H : Heap} {Q : Value → Heap → Prop} {E : Value → Heap → Prop}
theorem fValueOfV {t : Addr} : hwp Tryz.prog (ReflectliteValue.unpack (.iface 31 (.pointer (some t)))) H Q E = Q (.agg #[.pointer (some ⟨5, 31, none⟩), .pointer (some ⟨H.size, 0, none⟩), .int .u64 150]) (H.push (.cells #[.pointer (some t)] 31)) := by kernel_rfl
theorem fValueOfE {e : Addr} : hwp Tryz.prog (ReflectliteValue.unpack (.iface 29 (.pointer (some e)))) H Q E = Q (.agg #[.pointer (some ⟨5, 29, none⟩), .pointer (some ⟨H.size, 0, none⟩), .int .u64 150]) (H.push (.cells #[.pointer (some e)] 29)) := by kernel_rfl
theorem fType {a : Addr} : qrun Tryz.prog (ReflectliteValue.methodAny (ReflectliteValue.valueError "reflectlite.Value.Type" 0) (fun t _ _ _ => ReflectliteType.toType t) #[.agg #[.pointer (some ⟨5, 31, none⟩), .pointer (some a), .int .u64 150]]) H = some (.iface 82 (.agg #[.pointer (some ⟨5, 31, none⟩)])) := by kernel_rfl
theorem mKind {h : Value} : qrun Tryz.prog (Go.method (Tryz.prog.types.size + Made.depth) 82 (.agg #[h]) "Kind") H = some (130, h) := by kernel_rfl
theorem mElem {h : Value} : qrun Tryz.prog (Go.method (Tryz.prog.types.size + Made.depth) 82 (.agg #[h]) "Elem") H = some (140, .agg #[h]) := by kernel_rfl
theorem mImpl {h : Value} : qrun Tryz.prog (Go.method (Tryz.prog.types.size + Made.depth) 82 (.agg #[h]) "Implements") H = some (141, .agg #[h]) := by kernel_rfl
theorem mAssg {h : Value} : qrun Tryz.prog (Go.method (Tryz.prog.types.size + Made.depth) 82 (.agg #[h]) "AssignableTo") H = some (138, .agg #[h]) := by kernel_rfl
theorem mComp {h : Value} : qrun Tryz.prog (Go.method (Tryz.prog.types.size + Made.depth) 82 (.agg #[h]) "Comparable") H = some (139, .agg #[h]) := by kernel_rfl
theorem mUnwr {h : Value} : qrun Tryz.prog (Go.method (Tryz.prog.types.size + Made.depth) 29 h "Unwrap") H = some (10, h) := by kernel_rfl
theorem mErr {h : Value} : qrun Tryz.prog (Go.method (Tryz.prog.types.size + Made.depth) 23 h "Error") H = some (133, h) := by kernel_rfl
theorem fKindV : qrun Tryz.prog ((ReflectliteType.abiMethod fun t => (fun a : Nat => Value.int IntKind.u8 (a : Int)) <$> Rtype.kind t) #[.pointer (some ⟨5, 31, none⟩)]) H = some (.int .u8 22) := by kernel_rfl
theorem fKindE : qrun Tryz.prog ((ReflectliteType.abiMethod fun t => (fun a : Nat => Value.int IntKind.u8 (a : Int)) <$> Rtype.kind t) #[.pointer (some ⟨5, 29, none⟩)]) H = some (.int .u8 22) := by kernel_rfl
theorem fElem : qrun Tryz.prog (ReflectliteType.method ReflectliteType.elem #[.agg #[.pointer (some ⟨5, 31, none⟩)]]) H = some (.iface 82 (.agg #[.pointer (some ⟨5, 29, none⟩)])) := by kernel_rfl
theorem fImpl : qrun Tryz.prog (ReflectliteType.relation "Implements" ReflectliteType.implements_ #[.agg #[.pointer (some ⟨5, 29, none⟩)], .iface 82 (.agg #[.pointer (some ⟨5, 27, none⟩)])]) H = some (.bool true) := by kernel_rfl
theorem fTypeOf {v : Value} : qrun Tryz.prog (ReflectliteType.typeOf #[.iface 29 v]) H = some (.iface 82 (.agg #[.pointer (some ⟨5, 29, none⟩)])) := by kernel_rfl
theorem fTypeOfN {v : Value} : qrun Tryz.prog (ReflectliteType.typeOf #[.iface 23 v]) H = some (.iface 82 (.agg #[.pointer (some ⟨5, 23, none⟩)])) := by kernel_rfl
theorem fAssg : qrun Tryz.prog (ReflectliteType.relation "AssignableTo" ReflectliteType.assignableTo #[.agg #[.pointer (some ⟨5, 29, none⟩)], .iface 82 (.agg #[.pointer (some ⟨5, 29, none⟩)])]) H = some (.bool true) := by kernel_rfl
theorem fComp : qrun Tryz.prog ((ReflectliteType.method fun t => (fun a => Value.bool a.comparable) <$> typeInfo t) #[.agg #[.pointer (some ⟨5, 23, none⟩)]]) H = some (.bool true) := by kernel_rfl
end
end Go.Proofs.YtpkfgoemhcgpdaaGreatDoor

namespace Go.HL
/-- x, ok := e.(I): a method is missing. -/
theorem qrun_lacks {P : Program} {H : Heap} {t xT asserted : TypeId} {v z : Value} {want : Array (String × TypeId)} (hu : P.underlying asserted = some (.interface want)) (h : (P.info? t).map (fun i => (lacking want i.methods).isEmpty) = some false)
    (hz : (P.info? asserted).map (·.zero) = some (some z)) : qrun P (Instr.typeAssert (.iface t v) xT asserted true) H = some (.tuple #[z, .bool false]) := by
  obtain ⟨i, hi, hl⟩ := Option.map_eq_some_iff.1 h
  obtain ⟨j, hj, hz'⟩ := Option.map_eq_some_iff.1 hz
  obtain ⟨m, hm⟩ := missingMethod_some (want := want) (got := i.methods) (fun e => by rw [e] at hl; cases hl)
  have hzT : zeroT P asserted = some z := by unfold zeroT; rw [hj]; exact hz'
  unfold Instr.typeAssert
  simp only []
  rw [qrun_bind', qrun_underlying hu, Option.bind_some]
  simp only []
  rw [qrun_bind', qrun_typeInfo hi, Option.bind_some]
  simp only [hm, if_true]
  rw [qrun_bind', qrun_zeroValue hzT]
  rfl
end Go.HL
namespace Go.Proofs.YtpkfgoemhcgpdaaGreatDoor
open Go.HL Go.Extern
set_option maxRecDepth 10000
set_option linter.unusedSimpArgs false
set_option linter.unusedVariables false
section
variable {H : Heap} {Q : Value → Heap → Prop} {E : Value → Heap → Prop} {a p t : Addr}
theorem fPartsV : qrun Tryz.prog (ReflectliteValue.parts (.agg #[.pointer (some ⟨5, 31, none⟩), .pointer (some a), .int .u64 150])) H = some (some (31, a, 150)) := by kernel_rfl
theorem fPartsE : qrun Tryz.prog (ReflectliteValue.parts (.agg #[.pointer (some ⟨5, 29, none⟩), .pointer (some a), .int .u64 150])) H = some (some (29, a, 150)) := by kernel_rfl
theorem fPartsA : qrun Tryz.prog (ReflectliteValue.parts (.agg #[.pointer (some ⟨5, 29, none⟩), .pointer (some a), .int .u64 406])) H = some (some (29, a, 406)) := by kernel_rfl
theorem fElemOf : qrun Tryz.prog (Rtype.elem? 31) H = some (some 29) := by kernel_rfl
theorem fMk : qrun Tryz.prog (ReflectliteValue.mk 29 p ReflectliteValue.flagAddr) H = some (.agg #[.pointer (some ⟨5, 29, none⟩), .pointer (some p), .int .u64 406]) := by kernel_rfl
theorem fDirect : qrun Tryz.prog (Rtype.directlyAssignable 29 29) H = some true := by kernel_rfl
theorem loadV {x : Value} {ty : TypeId} (hg : aggN Tryz.prog ty = some none) (ha : cellH H a = some x) : qrun Tryz.prog (loadVar ty a) H = some x := by
  refine qrun_loadVar (full_of H) ?_
  rw [loadA_one, hg]
  exact ha
theorem fIsNil (ha : cellH H a = some (.pointer (some p))) : qrun Tryz.prog (ReflectliteValue.method (ReflectliteValue.valueError "reflectlite.Value.IsNil" 0) ReflectliteValue.isNil #[.agg #[.pointer (some ⟨5, 31, none⟩), .pointer (some a), .int .u64 150]]) H = some (.bool false) := by
  have hl := loadV (ty := 31) T.agg31 ha
  show qrun Tryz.prog (do match ← ReflectliteValue.parts (.agg #[.pointer (some ⟨5, 31, none⟩), .pointer (some a), .int .u64 150]) with | none => _ | some (t, a, fl) => ReflectliteValue.isNil t a fl (fl % 32)) H = _
  rw [qrun_bind', fPartsV]
  simp [ReflectliteValue.isNil, qrun_bind', hl, pure, qrun]
theorem fElemV (ha : cellH H a = some (.pointer (some p))) : qrun Tryz.prog (ReflectliteValue.method (ReflectliteValue.valueError "reflectlite.Value.Elem" 0) ReflectliteValue.elem #[.agg #[.pointer (some ⟨5, 31, none⟩), .pointer (some a), .int .u64 150]]) H = some (.agg #[.pointer (some ⟨5, 29, none⟩), .pointer (some p), .int .u64 406]) := by
  have hl := loadV (ty := 31) T.agg31 ha
  show qrun Tryz.prog (do match ← ReflectliteValue.parts (.agg #[.pointer (some ⟨5, 31, none⟩), .pointer (some a), .int .u64 150]) with | none => _ | some (t, a, fl) => ReflectliteValue.elem t a fl (fl % 32)) H = _
  rw [qrun_bind', fPartsV]
  simp [ReflectliteValue.elem, qrun_bind', hl, fElemOf, fMk, pure, qrun]
theorem fSet {b : Addr} {v : Value} {H' : Heap} (h1 : oneC v = true) (hb : cellH H b = some v) (hw : wr H a v = some H') (hq : Q (.tuple #[]) H') :
    hwp Tryz.prog (ReflectliteValue.set #[.agg #[.pointer (some ⟨5, 29, none⟩), .pointer (some a), .int .u64 406], .agg #[.pointer (some ⟨5, 29, none⟩), .pointer (some b), .int .u64 150]]) H Q E := by
  have hl := loadV (ty := 29) T.agg29 hb
  unfold ReflectliteValue.set
  refine hwp_qbind fPartsA ?_
  refine hwp_qbind fPartsE ?_
  simp only []
  rw [if_neg (by decide)]
  refine hwp_qbind hl ?_
  refine hwp_qbind fDirect ?_
  rw [if_pos rfl, hwp_bind']
  unfold storeVar
  refine hwp_qbind (qrun_sizeOf T.size29 H) ?_
  have hc : v.cells = #[v] := by cases v <;> first | rfl | (simp [oneC] at h1; done)
  rw [hc, if_neg (by simp)]
  refine hwp_storeCells [v] 0 H H' ?_ hq
  rw [storeCells_wrs _ _ _ (by simpa using h1), wrs_one]
  exact hw
theorem eNilL {x : Operand} {v : Value} : binV Tryz.prog (full H) .eql 27 x (.const .nilIface) (.iface 29 v) .nilIface = some (.bool false) := by cases x <;> kernel_rfl
theorem eNilN {x : Operand} {v : Value} : binV Tryz.prog (full H) .eql 27 x (.const .nilIface) (.iface 23 v) .nilIface = some (.bool false) := by cases x <;> kernel_rfl
theorem nNilN {x : Operand} {v : Value} : binV Tryz.prog (full H) .neq 27 x (.const .nilIface) (.iface 23 v) .nilIface = some (.bool true) := by cases x <;> kernel_rfl
theorem nNil0 {x : Operand} : binV Tryz.prog (full H) .neq 27 x (.const .nilIface) .nilIface .nilIface = some (.bool false) := by cases x <;> kernel_rfl
theorem eNilA {x : Operand} {v : Value} : binV Tryz.prog (full H) .eql 20 x (.const .nilIface) (.iface 31 v) .nilIface = some (.bool false) := by cases x <;> kernel_rfl
theorem eqLN {x y : Operand} {v : Value} {n : Int} : binV Tryz.prog (full H) .eql 27 x y (.iface 29 v) (.iface 23 (.int .i64 n)) = some (.bool false) := by cases x <;> cases y <;> kernel_rfl
theorem eqNN {x y : Operand} {m n : Int} : binV Tryz.prog (full H) .eql 27 x y (.iface 23 (.int .i64 m)) (.iface 23 (.int .i64 n)) = some (.bool (decide (m = n))) := by
  show binV Tryz.prog (full H) .eql 27 x y (.iface 23 (.int .i64 m)) (.iface 23 (.int .i64 n)) = some (.bool (m == n))
  cases x <;> cases y <;> kernel_rfl
theorem taNoIs {v : Value} : qrun Tryz.prog (Instr.typeAssert (.iface 29 v) 27 93 true) H = some (.tuple #[.nilIface, .bool false]) := qrun_lacks Tryz.underlying93 (by kernel_rfl) (by kernel_rfl)
theorem taUnwrap {v : Value} : qrun Tryz.prog (Instr.typeAssert (.iface 29 v) 27 89 true) H = some (.tuple #[.iface 29 v, .bool true]) := by kernel_rfl
theorem taNoIsN {v : Value} : qrun Tryz.prog (Instr.typeAssert (.iface 23 v) 27 93 true) H = some (.tuple #[.nilIface, .bool false]) := qrun_lacks Tryz.underlying93 (by kernel_rfl) (by kernel_rfl)
theorem taNoUnN {v : Value} : qrun Tryz.prog (Instr.typeAssert (.iface 23 v) 27 89 true) H = some (.tuple #[.nilIface, .bool false]) := qrun_lacks Tryz.underlying89 (by kernel_rfl) (by kernel_rfl)
theorem taNoUsN {v : Value} : qrun Tryz.prog (Instr.typeAssert (.iface 23 v) 27 90 true) H = some (.tuple #[.nilIface, .bool false]) := qrun_lacks Tryz.underlying90 (by kernel_rfl) (by kernel_rfl)
theorem callF_extH {f : FuncId} {fn : Func} {e : Array Value → Sem Value} {args : List Value} {R : Value → Heap → Prop} {E : List PanicEntry → Heap → Prop} {P : Program}
    (hf : P.funcs[f]? = some fn) (hname : (fn.name == "runtime.NumGoroutine") = false) (hb : fn.body.isNone = true) (hn : Extern.findNext fn = none) (he : Extern.find fn = some e)
    (h : hwp P (e args.toArray) H R (fun v H' => E [{ v, recovered := false }] H')) : CallF P f args H R E := by
  unfold CallF callFunc
  rw [hwp_bind']
  show hwp P (match P.funcs[f]? with | none => _ | some fn => _) H _ _
  rw [hf]
  simp only [hname, Bool.false_eq_true, if_false, hb, if_true]
  rw [hwp_bind']
  show hwp P _ H _ _
  simp only [hn, he]
  show hwp P (do let d ← e args.toArray; pure (Next.value d)) H _ _
  rw [hwp_bind']
  exact h
theorem xValueOfV : CallF Tryz.prog 14 [.iface 31 (.pointer (some t))] H (fun r H' => r = .agg #[.pointer (some ⟨5, 31, none⟩), .pointer (some ⟨H.size, 0, none⟩), .int .u64 150] ∧ H' = H.push (.cells #[.pointer (some t)] 31)) NoP :=
  callF_extH Tryz.func14 (by kernel_rfl) (by kernel_rfl) (by kernel_rfl) (e := fun args => ReflectliteValue.unpack (args.getD 0 (.tuple #[]))) (by kernel_rfl) (by
    show hwp Tryz.prog (ReflectliteValue.unpack (.iface 31 (.pointer (some t)))) H _ _
    rw [fValueOfV]; exact ⟨rfl, rfl⟩)
theorem xValueOfE : CallF Tryz.prog 14 [.iface 29 (.pointer (some t))] H (fun r H' => r = .agg #[.pointer (some ⟨5, 29, none⟩), .pointer (some ⟨H.size, 0, none⟩), .int .u64 150] ∧ H' = H.push (.cells #[.pointer (some t)] 29)) NoP :=
  callF_extH Tryz.func14 (by kernel_rfl) (by kernel_rfl) (by kernel_rfl) (e := fun args => ReflectliteValue.unpack (args.getD 0 (.tuple #[]))) (by kernel_rfl) (by
    show hwp Tryz.prog (ReflectliteValue.unpack (.iface 29 (.pointer (some t)))) H _ _
    rw [fValueOfE]; exact ⟨rfl, rfl⟩)
theorem xType : CallF Tryz.prog 15 [.agg #[.pointer (some ⟨5, 31, none⟩), .pointer (some a), .int .u64 150]] H (fun r H' => H = H' ∧ r = .iface 82 (.agg #[.pointer (some ⟨5, 31, none⟩)])) NoP := by
  have h : qrun Tryz.prog ((ReflectliteValue.methodAny (ReflectliteValue.valueError "reflectlite.Value.Type" 0) (fun t _ _ _ => ReflectliteType.toType t)) #[.agg #[.pointer (some ⟨5, 31, none⟩), .pointer (some a), .int .u64 150]]) H = some (.iface 82 (.agg #[.pointer (some ⟨5, 31, none⟩)])) := by kernel_rfl
  exact callF_ext (v := .iface 82 (.agg #[.pointer (some ⟨5, 31, none⟩)])) Tryz.func15 (by kernel_rfl) (by kernel_rfl) (by kernel_rfl) (by kernel_rfl) h ⟨rfl, rfl⟩
theorem xIsNil (ha : cellH H a = some (.pointer (some p))) : CallF Tryz.prog 16 [.agg #[.pointer (some ⟨5, 31, none⟩), .pointer (some a), .int .u64 150]] H (fun r H' => H = H' ∧ r = .bool false) NoP := by
  have h : qrun Tryz.prog ((ReflectliteValue.method (ReflectliteValue.valueError "reflectlite.Value.IsNil" 0) ReflectliteValue.isNil) #[.agg #[.pointer (some ⟨5, 31, none⟩), .pointer (some a), .int .u64 150]]) H = some (.bool false) := fIsNil ha
  exact callF_ext (v := .bool false) Tryz.func16 (by kernel_rfl) (by kernel_rfl) (by kernel_rfl) (by kernel_rfl) h ⟨rfl, rfl⟩
theorem xKindV : CallF Tryz.prog 130 [.pointer (some ⟨5, 31, none⟩)] H (fun r H' => H = H' ∧ r = .int .u8 22) NoP := by
  have h : qrun Tryz.prog ((ReflectliteType.abiMethod fun t => do pure (.int .u8 (← Rtype.kind t))) #[.pointer (some ⟨5, 31, none⟩)]) H = some (.int .u8 22) := by kernel_rfl
  exact callF_ext (v := .int .u8 22) Tryz.func130 (by kernel_rfl) (by kernel_rfl) (by kernel_rfl) (by kernel_rfl) h ⟨rfl, rfl⟩
theorem xKindE : CallF Tryz.prog 130 [.pointer (some ⟨5, 29, none⟩)] H (fun r H' => H = H' ∧ r = .int .u8 22) NoP := by
  have h : qrun Tryz.prog ((ReflectliteType.abiMethod fun t => do pure (.int .u8 (← Rtype.kind t))) #[.pointer (some ⟨5, 29, none⟩)]) H = some (.int .u8 22) := by kernel_rfl
  exact callF_ext (v := .int .u8 22) Tryz.func130 (by kernel_rfl) (by kernel_rfl) (by kernel_rfl) (by kernel_rfl) h ⟨rfl, rfl⟩
theorem xElem : CallF Tryz.prog 140 [.agg #[.pointer (some ⟨5, 31, none⟩)]] H (fun r H' => H = H' ∧ r = .iface 82 (.agg #[.pointer (some ⟨5, 29, none⟩)])) NoP := by
  have h : qrun Tryz.prog ((ReflectliteType.method ReflectliteType.elem) #[.agg #[.pointer (some ⟨5, 31, none⟩)]]) H = some (.iface 82 (.agg #[.pointer (some ⟨5, 29, none⟩)])) := by kernel_rfl
  exact callF_ext (v := .iface 82 (.agg #[.pointer (some ⟨5, 29, none⟩)])) Tryz.func140 (by kernel_rfl) (by kernel_rfl) (by kernel_rfl) (by kernel_rfl) h ⟨rfl, rfl⟩
theorem xImpl : CallF Tryz.prog 141 [.agg #[.pointer (some ⟨5, 29, none⟩)], .iface 82 (.agg #[.pointer (some ⟨5, 27, none⟩)])] H (fun r H' => H = H' ∧ r = .bool true) NoP := by
  have h : qrun Tryz.prog ((ReflectliteType.relation "Implements" ReflectliteType.implements_) [.agg #[.pointer (some ⟨5, 29, none⟩)], .iface 82 (.agg #[.pointer (some ⟨5, 27, none⟩)])].toArray) H = some (.bool true) := by kernel_rfl
  have h1 : (Tryz.f141.name == "runtime.NumGoroutine") = false := by kernel_rfl
  have h2 : Tryz.f141.body.isNone = true := by kernel_rfl
  have h3 : (Extern.findNext Tryz.f141).isNone = true := by kernel_rfl
  have h4 : Extern.find Tryz.f141 = some (ReflectliteType.relation "Implements" ReflectliteType.implements_) := by kernel_rfl
  have k1 := @callF_ext Tryz.prog 141 Tryz.f141 _ [.agg #[.pointer (some ⟨5, 29, none⟩)], .iface 82 (.agg #[.pointer (some ⟨5, 27, none⟩)])] H (.bool true) (fun r H' => H = H' ∧ r = .bool true) NoP Tryz.func141 h1 h2 h3 h4
  have k2 := k1 h
  have k3 := k2 ⟨rfl, rfl⟩
  exact k3
theorem xTypeOf {v : Value} : CallF Tryz.prog 18 [.iface 29 v] H (fun r H' => H = H' ∧ r = .iface 82 (.agg #[.pointer (some ⟨5, 29, none⟩)])) NoP := by
  have h : qrun Tryz.prog ((ReflectliteType.typeOf) #[.iface 29 v]) H = some (.iface 82 (.agg #[.pointer (some ⟨5, 29, none⟩)])) := by kernel_rfl
  exact callF_ext (v := .iface 82 (.agg #[.pointer (some ⟨5, 29, none⟩)])) Tryz.func18 (by kernel_rfl) (by kernel_rfl) (by kernel_rfl) (by kernel_rfl) h ⟨rfl, rfl⟩
theorem xTypeOfN {v : Value} : CallF Tryz.prog 18 [.iface 23 v] H (fun r H' => H = H' ∧ r = .iface 82 (.agg #[.pointer (some ⟨5, 23, none⟩)])) NoP := by
  have h : qrun Tryz.prog ((ReflectliteType.typeOf) #[.iface 23 v]) H = some (.iface 82 (.agg #[.pointer (some ⟨5, 23, none⟩)])) := by kernel_rfl
  exact callF_ext (v := .iface 82 (.agg #[.pointer (some ⟨5, 23, none⟩)])) Tryz.func18 (by kernel_rfl) (by kernel_rfl) (by kernel_rfl) (by kernel_rfl) h ⟨rfl, rfl⟩
theorem xAssg : CallF Tryz.prog 138 [.agg #[.pointer (some ⟨5, 29, none⟩)], .iface 82 (.agg #[.pointer (some ⟨5, 29, none⟩)])] H (fun r H' => H = H' ∧ r = .bool true) NoP := by
  have h : qrun Tryz.prog ((ReflectliteType.relation "AssignableTo" ReflectliteType.assignableTo) [.agg #[.pointer (some ⟨5, 29, none⟩)], .iface 82 (.agg #[.pointer (some ⟨5, 29, none⟩)])].toArray) H = some (.bool true) := by kernel_rfl
  have h1 : (Tryz.f138.name == "runtime.NumGoroutine") = false := by kernel_rfl
  have h2 : Tryz.f138.body.isNone = true := by kernel_rfl
  have h3 : (Extern.findNext Tryz.f138).isNone = true := by kernel_rfl
  have h4 : Extern.find Tryz.f138 = some (ReflectliteType.relation "AssignableTo" ReflectliteType.assignableTo) := by kernel_rfl
  have k1 := @callF_ext Tryz.prog 138 Tryz.f138 _ [.agg #[.pointer (some ⟨5, 29, none⟩)], .iface 82 (.agg #[.pointer (some ⟨5, 29, none⟩)])] H (.bool true) (fun r H' => H = H' ∧ r = .bool true) NoP Tryz.func138 h1 h2 h3 h4
  have k2 := k1 h
  have k3 := k2 ⟨rfl, rfl⟩
  exact k3
theorem xElemV (ha : cellH H a = some (.pointer (some p))) : CallF Tryz.prog 31 [.agg #[.pointer (some ⟨5, 31, none⟩), .pointer (some a), .int .u64 150]] H (fun r H' => H = H' ∧ r = .agg #[.pointer (some ⟨5, 29, none⟩), .pointer (some p), .int .u64 406]) NoP := by
  have h : qrun Tryz.prog ((ReflectliteValue.method (ReflectliteValue.valueError "reflectlite.Value.Elem" 0) ReflectliteValue.elem) #[.agg #[.pointer (some ⟨5, 31, none⟩), .pointer (some a), .int .u64 150]]) H = some (.agg #[.pointer (some ⟨5, 29, none⟩), .pointer (some p), .int .u64 406]) := fElemV ha
  exact callF_ext (v := .agg #[.pointer (some ⟨5, 29, none⟩), .pointer (some p), .int .u64 406]) Tryz.func31 (by kernel_rfl) (by kernel_rfl) (by kernel_rfl) (by kernel_rfl) h ⟨rfl, rfl⟩
theorem xComp : CallF Tryz.prog 139 [.agg #[.pointer (some ⟨5, 23, none⟩)]] H (fun r H' => H = H' ∧ r = .bool true) NoP := by
  have h : qrun Tryz.prog ((ReflectliteType.method fun t => do Rtype.noPackHeld "Comparable" t; pure (.bool (← typeInfo t).comparable)) #[.agg #[.pointer (some ⟨5, 23, none⟩)]]) H = some (.bool true) := by kernel_rfl
  exact callF_ext (v := .bool true) Tryz.func139 (by kernel_rfl) (by kernel_rfl) (by kernel_rfl) (by kernel_rfl) h ⟨rfl, rfl⟩
theorem xSet {b : Addr} {v : Value} {H2 : Heap} (h1 : oneC v = true) (hb : cellH H b = some v) (hw : wr H a v = some H2) : CallF Tryz.prog 32 [.agg #[.pointer (some ⟨5, 29, none⟩), .pointer (some a), .int .u64 406], .agg #[.pointer (some ⟨5, 29, none⟩), .pointer (some b), .int .u64 150]] H (fun r H' => H' = H2 ∧ r = .tuple #[]) NoP :=
  callF_extH Tryz.func32 (by kernel_rfl) (by kernel_rfl) (by kernel_rfl) (e := ReflectliteValue.set) (by kernel_rfl) (fSet h1 hb hw ⟨rfl, rfl⟩)
/-- The variable that the library compares with. -/
def GE (H : Heap) : Prop := cellH H ⟨0, 0, none⟩ = some (.iface 82 (.agg #[.pointer (some ⟨5, 27, none⟩)]))
end
end Go.Proofs.YtpkfgoemhcgpdaaGreatDoor

namespace Go.Proofs.YtpkfgoemhcgpdaaGreatDoor
open Go.HL
set_option maxRecDepth 10000
set_option linter.unusedSimpArgs false
set_option linter.unusedVariables false
section
variable {H : Heap}
set_option maxHeartbeats 4000000 in
theorem as17_spec {e tb vb : Nat} {old : Value} (ht : Blk H tb 29 [old]) (hv : cellH H ⟨vb, 0, none⟩ = some (.pointer (some ⟨tb, 0, none⟩))) : CallF Tryz.prog 17 [.iface 29 (.pointer (some ⟨e, 0, none⟩)), .iface 31 (.pointer (some ⟨tb, 0, none⟩)),
    .agg #[.pointer (some ⟨5, 31, none⟩), .pointer (some ⟨vb, 0, none⟩), .int .u64 150], .iface 82 (.agg #[.pointer (some ⟨5, 29, none⟩)])] H
    (fun r H' => r = .bool true ∧ Fr [tb] H H' ∧ Blk H' tb 29 [.pointer (some ⟨e, 0, none⟩)]) NoP := by
  have tl := ht.lt
  have vl := cell_lt hv
  obtain ⟨A, hA⟩ : ∃ A, A = H.push (.cells #[.pointer (some ⟨5, 31, none⟩), .pointer (some ⟨vb, 0, none⟩), .int .u64 150] 48) := ⟨_, rfl⟩
  have bA : Blk A H.size 48 [.pointer (some ⟨5, 31, none⟩), .pointer (some ⟨vb, 0, none⟩), .int .u64 150] := by rw [hA]; exact Blk.new rfl
  have fA : Fr [] H A := by rw [hA]; exact Fr.push
  have lA : cellsH (cellH A) ⟨H.size, 0, none⟩ 0 3 = some [.pointer (some ⟨5, 31, none⟩), .pointer (some ⟨vb, 0, none⟩), .int .u64 150] := bA.cells0
  have vA := fA.cell' hv (by simp)
  have tA := fA.blk ht (by simp)
  refine callF_of Tryz.func17 rfl Tryz.ntmps17 Tryz.results17 (by decide) rfl ?_
  simp (disch := omega) only [go_sem, ↓cw_block, dsB_of, newPtr]
  rw [← hA]
  refine loop_by (fun k ρ H2 => H2 = A ∧ ρ.get 0 = .iface 29 (.pointer (some ⟨e, 0, none⟩)) ∧ ρ.get 3 = .iface 82 (.agg #[.pointer (some ⟨5, 29, none⟩)]) ∧ ρ.get 6 = .pointer (some ⟨H.size, 0, none⟩) ∧ ρ.ds = []) (k := 1) ?_ ?_
  · simp (disch := omega) only [go_sem, ↓cw_block, dsB_of, newPtr]
  · rintro k ρ H2 ⟨rfl, g0, g3, g6, gd⟩
    simp (disch := omega) only [go_sem, ↓cw_block, dsB_of, g0]
    refine call_to xTypeOf ?_
    rintro _ _ ⟨rfl, rfl⟩
    simp (disch := omega) only [go_sem, ↓cw_block, dsB_of, g0, g3]
    refine inv_to mAssg xAssg ?_
    rintro _ _ ⟨rfl, rfl⟩
    simp (disch := omega) only [go_sem, ↓cw_block, dsB_of, g0, g3, g6, lA]
    refine call_to (xElemV vA) ?_
    rintro _ _ ⟨rfl, rfl⟩
    simp (disch := omega) only [go_sem, ↓cw_block, dsB_of, g0, g3, g6]
    refine call_to xValueOfE ?_
    rintro _ _ ⟨rfl, rfl⟩
    simp (disch := omega) only [go_sem, ↓cw_block, dsB_of, g0, g3, g6]
    have tB := tA.push (.cells #[.pointer (some ⟨e, 0, none⟩)] 29)
    refine call_to (xSet (v := .pointer (some ⟨e, 0, none⟩)) rfl ((Blk.new (vs := [.pointer (some ⟨e, 0, none⟩)]) rfl).cell 0) (tB.wr (i := 0) (by simp) _)) ?_
    rintro _ _ ⟨rfl, rfl⟩
    simp (disch := omega) only [go_sem, ↓cw_block, dsB_of, g0, g3, g6]
    exact fin ⟨rfl, ((fA.trans Fr.push).mono (by simp)).trans (Fr.set (by simp)), tB.set 0 _⟩
set_option maxHeartbeats 4000000 in
/-- errors.As at a located error. -/
theorem as_spec {e tb : Nat} {old : Value} (g : GE H) (ht : Blk H tb 29 [old]) (htb : tb ≠ 0) : CallF Tryz.prog 6 [.iface 29 (.pointer (some ⟨e, 0, none⟩)), .iface 31 (.pointer (some ⟨tb, 0, none⟩))] H
    (fun r H' => r = .bool true ∧ Fr [tb] H H' ∧ Blk H' tb 29 [.pointer (some ⟨e, 0, none⟩)]) NoP := by
  have tl := ht.lt
  obtain ⟨A, hA⟩ : ∃ A, A = H.push (.cells #[.pointer (some ⟨tb, 0, none⟩)] 31) := ⟨_, rfl⟩
  obtain ⟨B, hB⟩ : ∃ B, B = A.push (.cells #[.pointer none, .pointer none, .int .u64 0] 48) := ⟨_, rfl⟩
  obtain ⟨V, hV⟩ : ∃ V, V = Value.agg #[.pointer (some ⟨5, 31, none⟩), .pointer (some ⟨H.size, 0, none⟩), .int .u64 150] := ⟨_, rfl⟩
  have bA : Blk A H.size 31 [.pointer (some ⟨tb, 0, none⟩)] := by rw [hA]; exact Blk.new rfl
  have bB : Blk B A.size 48 [.pointer none, .pointer none, .int .u64 0] := by rw [hB]; exact Blk.new rfl
  have sA : A.size = H.size + 1 := by rw [hA]; simp
  have fA : Fr [] H A := by rw [hA]; exact Fr.push
  have fB : Fr [] A B := by rw [hB]; exact Fr.push
  obtain ⟨C, e1, e2, e3⟩ := store_at (P := Tryz.prog) (ty := 48) (pre := []) (old := [.pointer none, .pointer none, .int .u64 0]) (rest := []) (new := [.pointer (some ⟨5, 31, none⟩), .pointer (some ⟨H.size, 0, none⟩), .int .u64 150]) bB rfl T.size48 (by simp [oneC])
  simp only [List.length_nil] at e1
  have bC : Blk C A.size 48 [.pointer (some ⟨5, 31, none⟩), .pointer (some ⟨H.size, 0, none⟩), .int .u64 150] := by simpa using e2
  have lC : cellsH (cellH C) ⟨A.size, 0, none⟩ 0 3 = some [.pointer (some ⟨5, 31, none⟩), .pointer (some ⟨H.size, 0, none⟩), .int .u64 150] := bC.cells0
  have vC : cellH C ⟨H.size, 0, none⟩ = some (.pointer (some ⟨tb, 0, none⟩)) := (e3.blk (fB.blk bA (by simp)) (by simp; omega)).cell 0
  have gC : GE C := by unfold GE at g ⊢; exact e3.cell' (fB.cell' (fA.cell' g (by simp)) (by simp)) (by have := cell_lt g; simp at this ⊢; omega)
  have tC : Blk C tb 29 [old] := e3.blk (fB.blk (fA.blk ht (by simp)) (by simp)) (by simp; omega)
  refine callF_of Tryz.func6 rfl Tryz.ntmps6 Tryz.results6 (by decide) rfl ?_
  simp (disch := omega) only [go_sem, ↓cw_block, dsB_of, eNilL, eNilA]
  refine call_to xValueOfV ?_
  rintro _ _ ⟨rfl, rfl⟩
  simp (disch := omega) only [go_sem, ↓cw_block, dsB_of, newPtr]
  rw [← hA, ← hB]
  simp (disch := omega) only [go_sem, ↓cw_block, dsB_of, newPtr, e1, lC]
  refine call_to xType ?_
  rintro _ _ ⟨rfl, rfl⟩
  simp (disch := omega) only [go_sem, ↓cw_block, dsB_of, newPtr, lC]
  refine inv_to mKind xKindV ?_
  rintro _ _ ⟨rfl, rfl⟩
  simp (disch := omega) only [go_sem, ↓cw_block, dsB_of, newPtr, lC]
  refine call_to (xIsNil vC) ?_
  rintro _ _ ⟨rfl, rfl⟩
  simp (disch := omega) only [go_sem, ↓cw_block, dsB_of, newPtr, lC]
  refine inv_to mElem xElem ?_
  rintro _ _ ⟨rfl, rfl⟩
  simp (disch := omega) only [go_sem, ↓cw_block, dsB_of, newPtr, lC]
  refine inv_to mKind xKindE ?_
  rintro _ _ ⟨rfl, rfl⟩
  have gC' := gC
  unfold GE at gC'
  simp (disch := omega) only [go_sem, ↓cw_block, dsB_of, newPtr, lC, gC']
  refine inv_to mImpl xImpl ?_
  rintro _ _ ⟨rfl, rfl⟩
  simp (disch := omega) only [go_sem, ↓cw_block, dsB_of, newPtr, lC, gC']
  refine call_to (as17_spec tC vC) ?_
  rintro _ D ⟨rfl, f1, b1⟩
  simp (disch := omega) only [go_sem, ↓cw_block, dsB_of, newPtr]
  exact fin ⟨rfl, (((fA.trans fB).mono (by simp)).trans (e3.mono (F := [A.size]) (G := [tb, A.size]) (fun b _ h => by simp at h; simp [h]))).trans (f1.mono (fun b _ h => by simp at h; simp [h])) |>.mono (fun b hb h => by simp at h; rcases h with h | h; exact List.mem_singleton.2 h; omega), b1⟩
set_option maxHeartbeats 4000000 in
/-- errors.Is at two error numbers. -/
theorem is19_num {m n : Int} : CallF Tryz.prog 19 [.iface 23 (iv m), .iface 23 (iv n), .bool true] H (fun r H' => H = H' ∧ r = .bool (decide (m = n))) NoP := by
  refine callF_of Tryz.func19 rfl Tryz.ntmps19 Tryz.results19 (by decide) rfl ?_
  simp (disch := omega) only [go_sem, ↓cw_block, dsB_of]
  refine loop_by (fun k ρ H2 => H = H2 ∧ ρ.get 0 = .iface 23 (iv m) ∧ ρ.get 1 = .iface 23 (iv n) ∧ ρ.get 2 = .bool true ∧ ρ.ds = []) (k := 1) ?_ ?_
  · simp (disch := omega) only [go_sem, ↓cw_block, dsB_of]
  · rintro k ρ H2 ⟨rfl, g0, g1, g2, gd⟩
    by_cases h : m = n
    · simp (disch := omega) only [go_sem, ↓cw_block, dsB_of, g0, g1, g2, eqNN, h]
      exact fin ⟨rfl, by simp [h]⟩
    · simp (disch := omega) only [go_sem, ↓cw_block, dsB_of, g0, g1, g2, eqNN, h, taNoIsN, taNoUnN, taNoUsN]
      exact fin ⟨rfl, by simp [h]⟩
theorem unwrap_spec {e : Nat} {v : Value} (h : cellH H ⟨e, 2, none⟩ = some v) : CallF Tryz.prog 10 [hp e] H (fun r H' => H = H' ∧ r = v) NoP := by
  refine callF_of Tryz.func10 rfl Tryz.ntmps10 Tryz.results10 (by decide) rfl ?_
  simp (disch := omega) only [go_sem, ↓cw_block, dsB_of, h]
  exact fin ⟨rfl, rfl⟩
set_option maxHeartbeats 4000000 in
theorem is19_loc {e : Nat} {m n : Int} (he : cellH H ⟨e, 2, none⟩ = some (.iface 23 (iv m))) : CallF Tryz.prog 19 [.iface 29 (hp e), .iface 23 (iv n), .bool true] H (fun r H' => H = H' ∧ r = .bool (decide (m = n))) NoP := by
  refine callF_of Tryz.func19 rfl Tryz.ntmps19 Tryz.results19 (by decide) rfl ?_
  simp (disch := omega) only [go_sem, ↓cw_block, dsB_of]
  refine loop_by (fun k ρ H2 => H = H2 ∧ (k = 2 ∧ ρ.get 0 = .iface 29 (hp e) ∨ k = 1 ∧ ρ.get 0 = .iface 23 (iv m)) ∧ ρ.get 1 = .iface 23 (iv n) ∧ ρ.get 2 = .bool true ∧ ρ.ds = []) (k := 2) ?_ ?_
  · simp (disch := omega) only [go_sem, ↓cw_block, dsB_of]
    exact .inl trivial
  · rintro k ρ H2 ⟨rfl, ⟨rfl, g0⟩ | ⟨rfl, g0⟩, g1, g2, gd⟩
    · simp (disch := omega) only [go_sem, ↓cw_block, dsB_of, g0, g1, g2, eqLN, taNoIs, taUnwrap]
      refine inv_to mUnwr (unwrap_spec he) ?_
      rintro _ _ ⟨rfl, rfl⟩
      simp (disch := omega) only [go_sem, ↓cw_block, dsB_of, g0, g1, g2, eNilN]
      refine fin ⟨1, by omega, rfl, .inr ⟨rfl, ?_⟩, ?_⟩
      · simp (disch := omega) only [go_sem, ↓cw_block, dsB_of, g0, g1, g2]
      · simp (disch := omega) only [go_sem, ↓cw_block, dsB_of, g0, g1, g2]
        exact gd
    · by_cases h : m = n
      · simp (disch := omega) only [go_sem, ↓cw_block, dsB_of, g0, g1, g2, eqNN, h]
        exact fin ⟨rfl, by simp [h]⟩
      · simp (disch := omega) only [go_sem, ↓cw_block, dsB_of, g0, g1, g2, eqNN, h, taNoIsN, taNoUnN, taNoUsN]
        exact fin ⟨rfl, by simp [h]⟩
set_option maxHeartbeats 4000000 in
theorem is_num {m n : Int} : CallF Tryz.prog 7 [.iface 23 (iv m), .iface 23 (iv n)] H (fun r H' => H = H' ∧ r = .bool (decide (m = n))) NoP := by
  refine callF_of Tryz.func7 rfl Tryz.ntmps7 Tryz.results7 (by decide) rfl ?_
  simp (disch := omega) only [go_sem, ↓cw_block, dsB_of, eNilN]
  refine call_to xTypeOfN ?_
  rintro _ _ ⟨rfl, rfl⟩
  simp (disch := omega) only [go_sem, ↓cw_block, dsB_of]
  refine inv_to mComp xComp ?_
  rintro _ _ ⟨rfl, rfl⟩
  simp (disch := omega) only [go_sem, ↓cw_block, dsB_of]
  refine call_to is19_num ?_
  rintro _ _ ⟨rfl, rfl⟩
  simp (disch := omega) only [go_sem, ↓cw_block, dsB_of]
  exact fin ⟨rfl, rfl⟩
set_option maxHeartbeats 4000000 in
theorem is_loc {e : Nat} {m n : Int} (he : cellH H ⟨e, 2, none⟩ = some (.iface 23 (iv m))) : CallF Tryz.prog 7 [.iface 29 (hp e), .iface 23 (iv n)] H (fun r H' => H = H' ∧ r = .bool (decide (m = n))) NoP := by
  refine callF_of Tryz.func7 rfl Tryz.ntmps7 Tryz.results7 (by decide) rfl ?_
  simp (disch := omega) only [go_sem, ↓cw_block, dsB_of, eNilN, eNilL]
  refine call_to xTypeOfN ?_
  rintro _ _ ⟨rfl, rfl⟩
  simp (disch := omega) only [go_sem, ↓cw_block, dsB_of]
  refine inv_to mComp xComp ?_
  rintro _ _ ⟨rfl, rfl⟩
  simp (disch := omega) only [go_sem, ↓cw_block, dsB_of]
  refine call_to (is19_loc he) ?_
  rintro _ _ ⟨rfl, rfl⟩
  simp (disch := omega) only [go_sem, ↓cw_block, dsB_of]
  exact fin ⟨rfl, rfl⟩
end
end Go.Proofs.YtpkfgoemhcgpdaaGreatDoor

namespace Go.Proofs.YtpkfgoemhcgpdaaGreatDoor
open Go.HL
set_option maxRecDepth 10000
set_option linter.unusedSimpArgs false
set_option linter.unusedVariables false

section
variable {H : Heap} {s : Str} {c : UInt8}
set_option maxHeartbeats 4000000 in
theorem lKey_spec : CallF Tryz.prog 110 [sv s] H (fun r H' => H = H' ∧ r = .bool (keyM s)) NoP := by
  unfold keyM
  refine callF_of Tryz.func110 rfl Tryz.ntmps110 Tryz.results110 (by decide) rfl ?_
  by_cases h0 : s = [99, 104, 97, 110]
  · have p0 : decide (s = [99, 104, 97, 110]) = true := by simp [h0]
    simp (disch := omega) only [go_sem, ↓cw_block, dsB_of, p0]
    exact fin ⟨rfl, by rw [h0]; rfl⟩
  have d0 : decide (s = [99, 104, 97, 110]) = false := by simp [h0]
  by_cases h1 : s = [111, 102]
  · have p1 : decide (s = [111, 102]) = true := by simp [h1]
    simp (disch := omega) only [go_sem, ↓cw_block, dsB_of, d0, p1]
    exact fin ⟨rfl, by rw [h1]; rfl⟩
  have d1 : decide (s = [111, 102]) = false := by simp [h1]
  by_cases h2 : s = [108, 111, 115, 115, 121]
  · have p2 : decide (s = [108, 111, 115, 115, 121]) = true := by simp [h2]
    simp (disch := omega) only [go_sem, ↓cw_block, dsB_of, d0, d1, p2]
    exact fin ⟨rfl, by rw [h2]; rfl⟩
  have d2 : decide (s = [108, 111, 115, 115, 121]) = false := by simp [h2]
  by_cases h3 : s = [99, 111, 112, 121, 105, 110, 103]
  · have p3 : decide (s = [99, 111, 112, 121, 105, 110, 103]) = true := by simp [h3]
    simp (disch := omega) only [go_sem, ↓cw_block, dsB_of, d0, d1, d2, p3]
    exact fin ⟨rfl, by rw [h3]; rfl⟩
  have d3 : decide (s = [99, 111, 112, 121, 105, 110, 103]) = false := by simp [h3]
  by_cases h4 : s = [118, 97, 114]
  · have p4 : decide (s = [118, 97, 114]) = true := by simp [h4]
    simp (disch := omega) only [go_sem, ↓cw_block, dsB_of, d0, d1, d2, d3, p4]
    exact fin ⟨rfl, by rw [h4]; rfl⟩
  have d4 : decide (s = [118, 97, 114]) = false := by simp [h4]
  by_cases h5 : s = [112, 114, 111, 99]
  · have p5 : decide (s = [112, 114, 111, 99]) = true := by simp [h5]
    simp (disch := omega) only [go_sem, ↓cw_block, dsB_of, d0, d1, d2, d3, d4, p5]
    exact fin ⟨rfl, by rw [h5]; rfl⟩
  have d5 : decide (s = [112, 114, 111, 99]) = false := by simp [h5]
  by_cases h6 : s = [115, 97, 102, 101]
  · have p6 : decide (s = [115, 97, 102, 101]) = true := by simp [h6]
    simp (disch := omega) only [go_sem, ↓cw_block, dsB_of, d0, d1, d2, d3, d4, d5, p6]
    exact fin ⟨rfl, by rw [h6]; rfl⟩
  have d6 : decide (s = [115, 97, 102, 101]) = false := by simp [h6]
  by_cases h7 : s = [100, 101, 97, 100, 108, 111, 99, 107]
  · have p7 : decide (s = [100, 101, 97, 100, 108, 111, 99, 107]) = true := by simp [h7]
    simp (disch := omega) only [go_sem, ↓cw_block, dsB_of, d0, d1, d2, d3, d4, d5, d6, p7]
    exact fin ⟨rfl, by rw [h7]; rfl⟩
  have d7 : decide (s = [100, 101, 97, 100, 108, 111, 99, 107]) = false := by simp [h7]
  by_cases h8 : s = [115, 101, 110, 100]
  · have p8 : decide (s = [115, 101, 110, 100]) = true := by simp [h8]
    simp (disch := omega) only [go_sem, ↓cw_block, dsB_of, d0, d1, d2, d3, d4, d5, d6, d7, p8]
    exact fin ⟨rfl, by rw [h8]; rfl⟩
  have d8 : decide (s = [115, 101, 110, 100]) = false := by simp [h8]
  by_cases h9 : s = [114, 101, 99, 118]
  · have p9 : decide (s = [114, 101, 99, 118]) = true := by simp [h9]
    simp (disch := omega) only [go_sem, ↓cw_block, dsB_of, d0, d1, d2, d3, d4, d5, d6, d7, d8, p9]
    exact fin ⟨rfl, by rw [h9]; rfl⟩
  have d9 : decide (s = [114, 101, 99, 118]) = false := by simp [h9]
  by_cases h10 : s = [105, 100, 108, 101]
  · have p10 : decide (s = [105, 100, 108, 101]) = true := by simp [h10]
    simp (disch := omega) only [go_sem, ↓cw_block, dsB_of, d0, d1, d2, d3, d4, d5, d6, d7, d8, d9, p10]
    exact fin ⟨rfl, by rw [h10]; rfl⟩
  have d10 : decide (s = [105, 100, 108, 101]) = false := by simp [h10]
  by_cases h11 : s = [119, 104, 101, 110]
  · have p11 : decide (s = [119, 104, 101, 110]) = true := by simp [h11]
    simp (disch := omega) only [go_sem, ↓cw_block, dsB_of, d0, d1, d2, d3, d4, d5, d6, d7, d8, d9, d10, p11]
    exact fin ⟨rfl, by rw [h11]; rfl⟩
  have d11 : decide (s = [119, 104, 101, 110]) = false := by simp [h11]
  by_cases h12 : s = [99, 104, 111, 111, 115, 101]
  · have p12 : decide (s = [99, 104, 111, 111, 115, 101]) = true := by simp [h12]
    simp (disch := omega) only [go_sem, ↓cw_block, dsB_of, d0, d1, d2, d3, d4, d5, d6, d7, d8, d9, d10, d11, p12]
    exact fin ⟨rfl, by rw [h12]; rfl⟩
  have d12 : decide (s = [99, 104, 111, 111, 115, 101]) = false := by simp [h12]
  by_cases h13 : s = [111, 114]
  · have p13 : decide (s = [111, 114]) = true := by simp [h13]
    simp (disch := omega) only [go_sem, ↓cw_block, dsB_of, d0, d1, d2, d3, d4, d5, d6, d7, d8, d9, d10, d11, d12, p13]
    exact fin ⟨rfl, by rw [h13]; rfl⟩
  have d13 : decide (s = [111, 114]) = false := by simp [h13]
  by_cases h14 : s = [105, 102]
  · have p14 : decide (s = [105, 102]) = true := by simp [h14]
    simp (disch := omega) only [go_sem, ↓cw_block, dsB_of, d0, d1, d2, d3, d4, d5, d6, d7, d8, d9, d10, d11, d12, d13, p14]
    exact fin ⟨rfl, by rw [h14]; rfl⟩
  have d14 : decide (s = [105, 102]) = false := by simp [h14]
  by_cases h15 : s = [101, 108, 115, 101]
  · have p15 : decide (s = [101, 108, 115, 101]) = true := by simp [h15]
    simp (disch := omega) only [go_sem, ↓cw_block, dsB_of, d0, d1, d2, d3, d4, d5, d6, d7, d8, d9, d10, d11, d12, d13, d14, p15]
    exact fin ⟨rfl, by rw [h15]; rfl⟩
  have d15 : decide (s = [101, 108, 115, 101]) = false := by simp [h15]
  by_cases h16 : s = [119, 104, 105, 108, 101]
  · have p16 : decide (s = [119, 104, 105, 108, 101]) = true := by simp [h16]
    simp (disch := omega) only [go_sem, ↓cw_block, dsB_of, d0, d1, d2, d3, d4, d5, d6, d7, d8, d9, d10, d11, d12, d13, d14, d15, p16]
    exact fin ⟨rfl, by rw [h16]; rfl⟩
  have d16 : decide (s = [119, 104, 105, 108, 101]) = false := by simp [h16]
  by_cases h17 : s = [97, 116, 111, 109, 105, 99]
  · have p17 : decide (s = [97, 116, 111, 109, 105, 99]) = true := by simp [h17]
    simp (disch := omega) only [go_sem, ↓cw_block, dsB_of, d0, d1, d2, d3, d4, d5, d6, d7, d8, d9, d10, d11, d12, d13, d14, d15, d16, p17]
    exact fin ⟨rfl, by rw [h17]; rfl⟩
  have d17 : decide (s = [97, 116, 111, 109, 105, 99]) = false := by simp [h17]
  by_cases h18 : s = [115, 107, 105, 112]
  · have p18 : decide (s = [115, 107, 105, 112]) = true := by simp [h18]
    simp (disch := omega) only [go_sem, ↓cw_block, dsB_of, d0, d1, d2, d3, d4, d5, d6, d7, d8, d9, d10, d11, d12, d13, d14, d15, d16, d17, p18]
    exact fin ⟨rfl, by rw [h18]; rfl⟩
  have d18 : decide (s = [115, 107, 105, 112]) = false := by simp [h18]
  by_cases h19 : s = [115, 116, 111, 112]
  · have p19 : decide (s = [115, 116, 111, 112]) = true := by simp [h19]
    simp (disch := omega) only [go_sem, ↓cw_block, dsB_of, d0, d1, d2, d3, d4, d5, d6, d7, d8, d9, d10, d11, d12, d13, d14, d15, d16, d17, d18, p19]
    exact fin ⟨rfl, by rw [h19]; rfl⟩
  have d19 : decide (s = [115, 116, 111, 112]) = false := by simp [h19]
  by_cases h20 : s = [108, 101, 110]
  · have p20 : decide (s = [108, 101, 110]) = true := by simp [h20]
    simp (disch := omega) only [go_sem, ↓cw_block, dsB_of, d0, d1, d2, d3, d4, d5, d6, d7, d8, d9, d10, d11, d12, d13, d14, d15, d16, d17, d18, d19, p20]
    exact fin ⟨rfl, by rw [h20]; rfl⟩
  have d20 : decide (s = [108, 101, 110]) = false := by simp [h20]
  simp (disch := omega) only [go_sem, ↓cw_block, dsB_of, d0, d1, d2, d3, d4, d5, d6, d7, d8, d9, d10, d11, d12, d13, d14, d15, d16, d17, d18, d19, d20]
  refine fin ⟨rfl, ?_⟩
  have : keysM.any (· == s) = false := by
    rw [List.any_eq_false]
    intro x hx
    unfold keysM at hx
    simp only [List.mem_cons, List.not_mem_nil, or_false] at hx
    simp only [beq_iff_eq]
    rintro rfl
    rcases hx with hx | hx | hx | hx | hx | hx | hx | hx | hx | hx | hx | hx | hx | hx | hx | hx | hx | hx | hx | hx | hx <;> simp_all
  rw [this]
/-- Which of the three classes have been met? -/
def fkM (c : UInt8) : Nat → Bool
  | 0 => false
  | 1 => letterM c
  | 2 => letterM c || digitM c
  | _ => wordM c
theorem lSpan_spec {b : Nat} (hb : Blk H b 3 [iv 2, iv 3, iv 4]) (hl : s.length ≤ 9223372036854775807) :
    CallF Tryz.prog 109 [sv s, .slice (some ⟨b, 0, none⟩) 3 3] H (fun r H' => H = H' ∧ ∃ n : Nat, r = iv n ∧ (n = s.length ↔ s.all wordM = true)) NoP := by
  have k0 := hb.cell 0
  have k1 := hb.cell 1
  have k2 := hb.cell 2
  simp only [List.getElem?_cons_succ, List.getElem?_cons_zero] at k0 k1 k2
  refine callF_of Tryz.func109 rfl Tryz.ntmps109 Tryz.results109 (by decide) rfl ?_
  simp (disch := omega) only [go_sem, ↓cw_block, dsB_of]
  refine loop_by (fun k ρ H2 => ∃ i : Nat, k = s.length - i ∧ i ≤ s.length ∧ (s.take i).all wordM = true ∧ H = H2 ∧ (ρ.get 0 = sv s ∧ ρ.get 1 = .slice (some ⟨b, 0, none⟩) 3 3 ∧ ρ.get 10 = iv s.length ∧ ρ.get 11 = iv i ∧ ρ.ds = [])) (k := s.length) ?_ ?_
  · exact ⟨0, rfl, by omega, by simp, rfl, by simp (disch := omega) only [go_sem, ↓cw_block, dsB_of]⟩
  · rintro k ρ _ ⟨i, rfl, hi, hall, rfl, r0, r1, r10, r11, rd⟩
    have hxi : (i : Int) + 1 = ((i + 1 : Nat) : Int) := by omega
    by_cases hin : i < s.length
    · have hb8 := bt8_lt hin
      generalize hc : bt8 s i = c at *
      simp (disch := omega) only [go_sem, ↓cw_block, dsB_of, r0, r1, r10, r11, rd]
      refine loop_by (fun m ρ H2 => ∃ j : Nat, m = 3 - j ∧ j ≤ 3 ∧ H = H2 ∧ (ρ.get 0 = sv s ∧ ρ.get 1 = .slice (some ⟨b, 0, none⟩) 3 3 ∧ ρ.get 5 = iv i ∧ ρ.get 6 = .bool (fkM c j) ∧ ρ.get 10 = iv s.length ∧ ρ.get 11 = iv i ∧ ρ.get 14 = .slice (some ⟨b, 0, none⟩) 3 3 ∧ ρ.get 15 = iv ((3 : Nat) : Int) ∧ ρ.get 16 = iv j ∧ ρ.ds = [])) (k := 3) ?_ ?_
      · exact ⟨0, rfl, by omega, rfl, by simp (disch := omega) only [go_sem, ↓cw_block, dsB_of, r0, r1, r10, r11, rd, fkM]⟩
      · rintro m ρ _ ⟨j, rfl, hj, rfl, q0, q1, q5, q6, q10, q11, q14, q15, q16, qd⟩
        have hxj : (j : Int) + 1 = ((j + 1 : Nat) : Int) := by omega
        by_cases hj3 : j < 3
        · have hload : cellH H ⟨b, 0 + j * 1, none⟩ = some (iv ((j : Int) + 2)) := by
            match j, hj3 with
            | 0, _ => exact k0
            | 1, _ => exact k1
            | 2, _ => exact k2
          rw [Nat.mul_one, Nat.zero_add] at hload
          cases hf : fkM c j
          · rw [hf] at q6
            simp (disch := omega) only [go_sem, ↓cw_block, dsB_of, q0, q1, q5, q6, q10, q11, q14, q15, q16, qd, hload, hc]
            refine call_to lClass_spec ?_
            rintro _ _ ⟨rfl, n, rfl, n1, n2, n3⟩
            have hnext : decide (n = (j : Int) + 2) = fkM c (j + 1) := by
              match j, hj3, hf with
              | 0, _, _ => simp only [fkM]; rw [Bool.eq_iff_iff]; simp only [decide_eq_true_eq]; exact n1
              | 1, _, hf =>
                simp only [fkM] at hf ⊢
                rw [hf, Bool.false_or, Bool.eq_iff_iff]; simp only [decide_eq_true_eq]; exact n2
              | 2, _, hf =>
                simp only [fkM, Bool.or_eq_false_iff] at hf ⊢
                unfold wordM
                rw [hf.1, hf.2, Bool.false_or, Bool.false_or, Bool.eq_iff_iff]; simp only [decide_eq_true_eq]; exact n3
            simp (disch := omega) only [go_sem, ↓cw_block, dsB_of, q0, q1, q5, q6, q10, q11, q14, q15, q16, qd, hnext]
            exact fin ⟨3 - (j + 1), by omega, j + 1, rfl, by omega, rfl, by simp (disch := omega) only [go_sem, ↓cw_block, dsB_of, q0, q1, q5, q6, q10, q11, q14, q15, q16, qd, hxj]⟩
          · rw [hf] at q6
            have hnext : fkM c (j + 1) = true := by
              match j, hj3, hf with
              | 0, _, hf => simp [fkM] at hf
              | 1, _, hf => simp only [fkM] at hf ⊢; rw [hf]; rfl
              | 2, _, hf => simp only [fkM] at hf ⊢; unfold wordM; rw [hf]; rfl
            simp (disch := omega) only [go_sem, ↓cw_block, dsB_of, q0, q1, q5, q6, q10, q11, q14, q15, q16, qd, hload]
            exact fin ⟨3 - (j + 1), by omega, j + 1, rfl, by omega, rfl, by rw [hnext]; simp (disch := omega) only [go_sem, ↓cw_block, dsB_of, q0, q1, q5, q6, q10, q11, q14, q15, q16, qd, hxj]⟩
        · obtain rfl : j = 3 := by omega
          have hw3 : fkM c 3 = wordM c := rfl
          rw [hw3] at q6
          cases hw : wordM c
          · rw [hw] at q6
            simp (disch := omega) only [go_sem, ↓cw_block, dsB_of, q0, q1, q5, q6, q10, q11, q14, q15, q16, qd]
            refine fin ⟨rfl, i, rfl, ⟨fun e => by omega, fun e => ?_⟩⟩
            have := List.all_eq_true.1 e c (List.mem_of_getElem? hb8)
            rw [hw] at this
            exact absurd this (by simp)
          · rw [hw] at q6
            simp (disch := omega) only [go_sem, ↓cw_block, dsB_of, q0, q1, q5, q6, q10, q11, q14, q15, q16, qd]
            refine fin ⟨s.length - (i + 1), by omega, i + 1, rfl, by omega, ?_, rfl, by simp (disch := omega) only [go_sem, ↓cw_block, dsB_of, q0, q1, q5, q6, q10, q11, q14, q15, q16, qd, hxi]⟩
            rw [List.take_add_one, hb8, List.all_append, hall]
            simp [hw]
    · obtain rfl : i = s.length := by omega
      rw [List.take_length] at hall
      simp (disch := omega) only [go_sem, ↓cw_block, dsB_of, r0, r1, r10, r11, rd]
      exact fin ⟨rfl, s.length, rfl, by simp [hall]⟩
theorem lName_spec (hl : s.length ≤ 9223372036854775807) : CallF Tryz.prog 97 [sv s] H (fun r H' => Fr [] H H' ∧ r = .bool (nameM s)) NoP := by
  unfold nameM
  refine callF_of Tryz.func97 rfl Tryz.ntmps97 Tryz.results97 (by decide) rfl ?_
  by_cases hne : s = []
  · have d0 : decide (¬ s = []) = false := by simp [hne]
    simp (disch := omega) only [go_sem, ↓cw_block, dsB_of, d0]
    exact fin ⟨Fr.refl _ _, by simp [hne]⟩
  have d0 : decide (¬ s = []) = true := by simp [hne]
  have hpos : 0 < s.length := List.length_pos_iff.2 hne
  by_cases h1 : s.length ≤ 12
  rotate_left
  · simp (disch := omega) only [go_sem, ↓cw_block, dsB_of, d0]
    exact fin ⟨Fr.refl _ _, by simp [h1]⟩
  simp (disch := omega) only [go_sem, ↓cw_block, dsB_of, d0]
  refine call_to lClass_spec ?_
  rintro _ _ ⟨rfl, n, rfl, n1, n2, n3⟩
  cases h2 : letterM (bt8 s 0)
  · have hn : ¬ n = 2 := fun e => by rw [n1] at e; rw [h2] at e; simp at e
    simp (disch := omega) only [go_sem, ↓cw_block, dsB_of]
    exact fin ⟨Fr.refl _ _, by simp⟩
  have hn : n = 2 := n1.2 h2
  subst hn
  simp (disch := omega) only [go_sem, ↓cw_block, dsB_of]
  have hb : Blk (H.push (.cells #[iv 2, iv 3, iv 4] 3)) H.size 3 [iv 2, iv 3, iv 4] := Blk.new rfl
  refine call_to (lSpan_spec hb hl) ?_
  intro v H5 hv
  refine Hush.out ?_
  obtain ⟨rfl, m, rfl, hm⟩ := hv
  by_cases h3 : m = s.length
  rotate_left
  · have hf : s.all wordM = false := by
      cases hq : s.all wordM
      · rfl
      · exact absurd (hm.2 hq) h3
    have h3' : ¬ ((m : Int) = (s.length : Int)) := by omega
    refine ⟨?_⟩
    simp (disch := omega) only [go_sem, ↓cw_block, dsB_of]
    exact fin ⟨Fr.push, by simp only [hf, Bool.and_false]⟩
  have hf := hm.1 h3
  refine ⟨?_⟩
  simp (disch := omega) only [go_sem, ↓cw_block, dsB_of, h3]
  refine call_to lKey_spec ?_
  rintro _ _ ⟨rfl, rfl⟩
  simp (disch := omega) only [go_sem, ↓cw_block, dsB_of]
  refine fin ⟨Fr.push, ?_⟩
  have e1 : decide (s.length ≠ 0 ∧ s.length ≤ 12) = true := by simp; exact ⟨hne, h1⟩
  simp only [hf, e1, h2, Bool.true_and, Bool.and_true]
end
end Go.Proofs.YtpkfgoemhcgpdaaGreatDoor

namespace Go.Proofs.YtpkfgoemhcgpdaaGreatDoor
open Go.HL
set_option maxRecDepth 10000
set_option linter.unusedSimpArgs false
set_option linter.unusedVariables false

section
variable {H : Heap} {S : Nat → Prop} {v : Value} {l : List Nd} {a : AN}

end
end Go.Proofs.YtpkfgoemhcgpdaaGreatDoor

