/- The program's lexer: classes of bytes, names. -/
import Derived.Test.YtpkfgoemhcgpdaaGreatDoorL07
namespace Go.HL
/-- A function of the base's own. -/
theorem callF_ext {P : Program} {f : FuncId} {fn : Func} {e : Array Value → Sem Value} {args : List Value} {H : Heap} {v : Value} {R : Value → Heap → Prop} {E : List PanicEntry → Heap → Prop}
    (hf : P.funcs[f]? = some fn) (hn : (fn.name == "runtime.NumGoroutine") = false) (hb : fn.body.isNone = true) (h1 : (Extern.findNext fn).isNone = true) (h2 : Extern.find fn = some e)
    (hq : qrun P (e args.toArray) H = some v) (hR : R v H) : CallF P f args H R E := by
  unfold CallF callFunc
  have h1' : Extern.findNext fn = none := by simpa using h1
  refine hwp_of_qrun P _ H (.value v) _ _ ?_ hR
  simp only [qrun_bind', program, qrun, hf, hn, hb, if_true, Bool.false_eq_true, if_false, mark, h1', h2, Option.bind_some, hq, pure]
end Go.HL
namespace Go.Proofs.YtpkfgoemhcgpdaaGreatDoor
open Go.HL
set_option maxRecDepth 10000
set_option linter.unusedSimpArgs false
set_option linter.unusedVariables false

section
variable {H : Heap} {s : Str} {c : UInt8}
theorem xIBS_spec : CallF Tryz.prog 101 [sv s, u8v c] H (fun r H' => H = H' ∧ ∃ n, r = iv n) NoP := by
  have e : ∀ (b : ByteArray) (d : Int), Extern.BytealgIndexByte.indexByte #[.string b, .int .u8 d] = (match (List.range b.size).find? fun i => b[i]! == d.toNat.toUInt8 with | some i => pure (goInt i) | none => pure (goInt (-1))) := fun b d => rfl
  obtain ⟨v, hv, hn⟩ : ∃ v, qrun Tryz.prog (Extern.BytealgIndexByte.indexByte #[sv s, u8v c]) H = some v ∧ ∃ n, v = iv n := by
    rw [e]
    split
    · exact ⟨_, rfl, _, rfl⟩
    · exact ⟨_, rfl, _, rfl⟩
  exact callF_ext (e := Extern.BytealgIndexByte.indexByte) Tryz.func101 rfl rfl rfl rfl hv ⟨rfl, hn⟩
theorem xIBl_spec : CallF Tryz.prog 86 [sv s, u8v c] H (fun r H' => H = H' ∧ ∃ n, r = iv n) NoP := by
  refine callF_of Tryz.func86 rfl Tryz.ntmps86 Tryz.results86 (by decide) rfl ?_
  simp (disch := omega) only [go_sem, ↓cw_block, dsB_of]
  refine call_to xIBS_spec ?_
  rintro _ _ ⟨rfl, n, rfl⟩
  simp (disch := omega) only [go_sem, ↓cw_block, dsB_of]
  exact fin ⟨rfl, n, rfl⟩
theorem xIB_spec : CallF Tryz.prog 113 [sv s, u8v c] H (fun r H' => H = H' ∧ ∃ n, r = iv n) NoP := by
  refine callF_of Tryz.func113 rfl Tryz.ntmps113 Tryz.results113 (by decide) rfl ?_
  simp (disch := omega) only [go_sem, ↓cw_block, dsB_of]
  refine call_to xIBl_spec ?_
  rintro _ _ ⟨rfl, n, rfl⟩
  simp (disch := omega) only [go_sem, ↓cw_block, dsB_of]
  exact fin ⟨rfl, n, rfl⟩
/-- The class of a byte, as far as names ask. -/
def ClsP (c : UInt8) (r : Value) : Prop := ∃ n : Int, r = iv n ∧ (n = 2 ↔ letterM c = true) ∧ (n = 3 ↔ digitM c = true) ∧ (n = 4 ↔ c.toNat = 95)
theorem cls_of {n : Int} (c : UInt8) (h1 : n = 2 ↔ (65 ≤ c.toNat ∧ c.toNat ≤ 90 ∨ 97 ≤ c.toNat ∧ c.toNat ≤ 122)) (h2 : n = 3 ↔ (48 ≤ c.toNat ∧ c.toNat ≤ 57)) (h3 : n = 4 ↔ c.toNat = 95) : ClsP c (iv n) := by
  refine ⟨n, rfl, ?_, ?_, h3⟩
  · unfold letterM; simp only [decide_eq_true_eq]; exact h1
  · unfold digitM; simp only [decide_eq_true_eq]; exact h2
set_option maxHeartbeats 1000000 in
theorem lClass_spec : CallF Tryz.prog 108 [u8v c] H (fun r H' => H = H' ∧ ClsP c r) NoP := by
  refine callF_of Tryz.func108 rfl Tryz.ntmps108 Tryz.results108 (by decide) rfl ?_
  by_cases h1 : 65 ≤ c.toNat ∧ c.toNat ≤ 90
  · simp (disch := omega) only [go_sem, ↓cw_block, dsB_of]
    exact fin ⟨rfl, cls_of c (by omega) (by omega) (by omega)⟩
  by_cases h2 : 97 ≤ c.toNat ∧ c.toNat ≤ 122
  · simp (disch := omega) only [go_sem, ↓cw_block, dsB_of]
    exact fin ⟨rfl, cls_of c (by omega) (by omega) (by omega)⟩
  by_cases g1 : 65 ≤ c.toNat <;> by_cases g2 : 97 ≤ c.toNat <;> first | omega | skip
  all_goals
    by_cases h3 : 48 ≤ c.toNat ∧ c.toNat ≤ 57
    · first
      | omega
      | (simp (disch := omega) only [go_sem, ↓cw_block, dsB_of]
         exact fin ⟨rfl, cls_of c (by omega) (by omega) (by omega)⟩)
    by_cases h4 : c.toNat = 95
    · first
      | omega
      | (by_cases g3 : 48 ≤ c.toNat
         · simp (disch := omega) only [go_sem, ↓cw_block, dsB_of]
           exact fin ⟨rfl, cls_of c (by omega) (by omega) (by omega)⟩
         · omega)
    by_cases g3 : 48 ≤ c.toNat <;> first | omega | skip
    all_goals
      by_cases h5 : c.toNat = 32
      · first
        | omega
        | (simp (disch := omega) only [go_sem, ↓cw_block, dsB_of]
           exact fin ⟨rfl, cls_of c (by omega) (by omega) (by omega)⟩)
      by_cases h6 : c.toNat = 9
      · first
        | omega
        | (simp (disch := omega) only [go_sem, ↓cw_block, dsB_of]
           exact fin ⟨rfl, cls_of c (by omega) (by omega) (by omega)⟩)
      by_cases h7 : c.toNat = 13
      · first
        | omega
        | (simp (disch := omega) only [go_sem, ↓cw_block, dsB_of]
           exact fin ⟨rfl, cls_of c (by omega) (by omega) (by omega)⟩)
      by_cases h8 : c.toNat = 10
      · first
        | omega
        | (simp (disch := omega) only [go_sem, ↓cw_block, dsB_of]
           exact fin ⟨rfl, cls_of c (by omega) (by omega) (by omega)⟩)
      by_cases h9 : c.toNat = 38
      · first
        | omega
        | (simp (disch := omega) only [go_sem, ↓cw_block, dsB_of]
           exact fin ⟨rfl, cls_of c (by omega) (by omega) (by omega)⟩)
      by_cases h10 : c.toNat = 124
      · first
        | omega
        | (simp (disch := omega) only [go_sem, ↓cw_block, dsB_of]
           exact fin ⟨rfl, cls_of c (by omega) (by omega) (by omega)⟩)
      simp (disch := omega) only [go_sem, ↓cw_block, dsB_of]
      refine call_to xIB_spec ?_
      rintro _ _ ⟨rfl, n, rfl⟩
      by_cases hn : 0 ≤ n
      · simp (disch := omega) only [go_sem, ↓cw_block, dsB_of]
        exact fin ⟨rfl, cls_of c (by omega) (by omega) (by omega)⟩
      · simp (disch := omega) only [go_sem, ↓cw_block, dsB_of]
        exact fin ⟨rfl, cls_of c (by omega) (by omega) (by omega)⟩
end
end Go.Proofs.YtpkfgoemhcgpdaaGreatDoor

namespace Go.HL
/-- One byte as a text. -/
theorem conv_byte {P : Program} {H : Heap} {s d e b o c : Nat} {n : Int} (hs : P.underlying s = some (.slice e)) (he : P.underlying e = some (.int .u8)) (hd : P.underlying d = some .string) (hc : cellH H ⟨b, o, none⟩ = some (.int .u8 n)) :
    convV P (full H) s d (.slice (some ⟨b, o, none⟩) 1 c) = some (.string (bs [UInt8.ofNat n.toNat])) := by
  show qrun P (convert s d (.slice (some ⟨b, o, none⟩) 1 c)) H = _
  unfold convert
  rw [qrun_bind', qrun_underlying hs, Option.bind_some, qrun_bind', qrun_underlying hd, Option.bind_some]
  show qrun P (do match ← underlying e with
    | .int .u8 => Conv.bytesToString (.slice (some ⟨b, o, none⟩) 1 c)
    | .int .i32 => Conv.runesToString (.slice (some ⟨b, o, none⟩) 1 c)
    | _ => stuck "Convert: a slice of what to string?") H = _
  rw [qrun_bind', qrun_underlying he, Option.bind_some]
  show qrun P (Conv.bytesToString (.slice (some ⟨b, o, none⟩) 1 c)) H = _
  unfold Conv.bytesToString
  simp only [qrun_bind']
  have hl : qrun P (loadCells ⟨b, o, none⟩ 1) H = some #[.int .u8 n] := by
    unfold loadCells
    have := qrun_loadCellsFrom (P := P) (H := H) (a := ⟨b, o, none⟩) 1 0 #[] [.int .u8 n] (by simp [cellsH, Addr.add, hc])
    simpa using this
  rw [hl, Option.bind_some]
  rfl
end Go.HL
namespace Go.Proofs.YtpkfgoemhcgpdaaGreatDoor
open Go.HL
set_option maxRecDepth 10000
set_option linter.unusedSimpArgs false
set_option linter.unusedVariables false

def dig1 (n : Nat) : UInt8 := UInt8.ofNat (48 + n)
def digF : Nat → Nat → Str
  | 0, _ => []
  | f + 1, n => if n < 10 then [dig1 n] else digF f (n / 10) ++ [dig1 (n % 10)]
/-- A number's text. -/
def digI (n : Int) : Str := if n < 0 then 45 :: digF 7 (-n).toNat else digF 7 n.toNat
theorem digF_len : ∀ (f n : Nat), (digF f n).length ≤ f
  | 0, n => by simp [digF]
  | f + 1, n => by
    unfold digF
    split
    · simp
    · have := digF_len f (n / 10); simp; omega
theorem digF_len2 : ∀ (f n k : Nat), n < 10 ^ k → 1 ≤ k → (digF f n).length ≤ k
  | 0, n, k, _, _ => by simp [digF]
  | f + 1, n, k, h, hk => by
    unfold digF
    split
    · simp; omega
    · rename_i h10
      have h2 : 2 ≤ k := by
        rcases Nat.lt_or_ge 1 k with h | h
        · omega
        · have : k = 1 := by omega
          subst this; omega
      have hp : 10 ^ k = 10 ^ (k - 1) * 10 := by
        rw [← Nat.pow_succ]; congr 1; omega
      have := digF_len2 f (n / 10) (k - 1) (by omega) (by omega)
      simp; omega
theorem digF_pos {f n : Nat} : 0 < (digF (f + 1) n).length := by
  unfold digF
  split <;> simp
theorem dig1_toNat {n : Nat} (h : n < 10) : (dig1 n).toNat = 48 + n := by
  unfold dig1
  rw [UInt8.toNat_ofNat']
  omega
theorem digF_all : ∀ (f n : Nat), (digF f n).all digitM = true
  | 0, n => by simp [digF]
  | f + 1, n => by
    unfold digF
    split
    · rename_i h
      simp [digitM, dig1_toNat h]; omega
    · rw [List.all_append, digF_all f]
      have := dig1_toNat (n := n % 10) (by omega)
      simp [digitM, this]; omega
theorem digF_val : ∀ (f n : Nat), n < 10 ^ f → valM (digF f n) = n
  | 0, n, h => by
    have : n = 0 := by simpa using h
    subst this; rfl
  | f + 1, n, h => by
    unfold digF
    split
    · rename_i h10
      simp [valM, dig1_toNat h10]; omega
    · have ih := digF_val f (n / 10) (by rw [Nat.pow_succ] at h; omega)
      unfold valM at ih ⊢
      rw [List.foldl_append, ih]
      simp [dig1_toNat (n := n % 10) (by omega)]
      omega
section
variable {H : Heap}
theorem r1Digits_pos : ∀ (f : Nat) {H : Heap} {n : Nat}, n < 10 ^ (f + 1) → f ≤ 10 → CallF Tryz.prog 22 [iv n] H (fun r H' => r = sv (digF (f + 1) n) ∧ Fr [] H H') NoP := by
  have one : ∀ {H : Heap} {n : Nat}, n < 10 → CallF Tryz.prog 22 [iv n] H (fun r H' => r = sv [dig1 n] ∧ Fr [] H H') NoP := by
    intro H n hn
    have hwr : IntKind.u8.wrap (48 + (n : Int)) = 48 + (n : Int) := by simp [IntKind.wrap, IntKind.bits, IntKind.signed]; omega
    have hbt : (48 + (n : Int)).toNat = 48 + n := by omega
    have hcv : convV Tryz.prog (full (H.push (.cells #[.int .u8 (48 + (n : Int))] 5))) 96 9 (.slice (some ⟨H.size, 0, none⟩) 1 1) = some (.string (bs [dig1 n])) := by
      have := conv_byte (P := Tryz.prog) (H := H.push (.cells #[.int .u8 (48 + (n : Int))] 5)) (b := H.size) (o := 0) (c := 1) Tryz.underlying96 Tryz.underlying5 Tryz.underlying9 ((Blk.new rfl).cell 0)
      rw [hbt] at this
      exact this
    refine callF_of Tryz.func22 rfl Tryz.ntmps22 Tryz.results22 (by decide) rfl ?_
    simp (disch := omega) only [go_sem, ↓cw_block, dsB_of, hwr, hcv]
    exact fin ⟨rfl, Fr.push⟩
  intro f
  induction f with
  | zero =>
    intro H n hn _
    have h10 : n < 10 := by simpa using hn
    have e : digF (0 + 1) n = [dig1 n] := by unfold digF; rw [if_pos h10]
    rw [e]
    exact one h10
  | succ f IH =>
    intro H n hn hf
    by_cases h10 : n < 10
    · have e : digF (f + 1 + 1) n = [dig1 n] := by unfold digF; rw [if_pos h10]
      rw [e]
      exact one h10
    have e : digF (f + 1 + 1) n = digF (f + 1) (n / 10) ++ [dig1 (n % 10)] := by
      have : ∀ g, digF (g + 1) n = if n < 10 then [dig1 n] else digF g (n / 10) ++ [dig1 (n % 10)] := fun _ => rfl
      rw [this, if_neg h10]
    rw [e]
    have hp : (10 : Nat) ^ (f + 1 + 1) ≤ 10 ^ 11 := Nat.pow_le_pow_right (by omega) (by omega)
    have hd : (n : Int).tdiv 10 = ((n / 10 : Nat) : Int) := by
      rw [Int.tdiv_eq_ediv_of_nonneg (by omega)]; omega
    have hm : (n : Int).tmod 10 = ((n % 10 : Nat) : Int) := by
      rw [Int.tmod_eq_emod_of_nonneg (by omega)]; omega
    have hle := digF_len (f + 1) (n / 10)
    have hn1 : n / 10 < 10 ^ (f + 1) := by rw [Nat.pow_succ] at hn; omega
    refine callF_of Tryz.func22 rfl Tryz.ntmps22 Tryz.results22 (by decide) rfl ?_
    simp (disch := omega) only [go_sem, ↓cw_block, dsB_of, hd]
    refine call_to (IH hn1 (by omega)) ?_
    intro r1 H1 hv
    refine Hush.out ?_
    obtain ⟨rfl, f1⟩ := hv
    refine ⟨?_⟩
    simp (disch := omega) only [go_sem, ↓cw_block, dsB_of, hm]
    refine call_to (one (by omega)) ?_
    intro r2 H2 hv
    refine Hush.out ?_
    obtain ⟨rfl, f2⟩ := hv
    have hl1 : ([dig1 (n % 10)] : Str).length = 1 := rfl
    refine ⟨?_⟩
    simp (disch := omega) only [go_sem, ↓cw_block, dsB_of, hl1]
    exact fin ⟨rfl, f1.trans f2⟩
theorem r1Digits_spec {n : Int} (h : -999999 ≤ n ∧ n ≤ 999999) : CallF Tryz.prog 22 [iv n] H (fun r H' => r = sv (digI n) ∧ Fr [] H H') NoP := by
  unfold digI
  by_cases h0 : n < 0
  · rw [if_pos h0]
    obtain ⟨m, hm⟩ : ∃ m : Nat, -n = m := ⟨(-n).toNat, by omega⟩
    have hmt : (-n).toNat = m := by omega
    rw [hmt]
    have hle := digF_len 7 m
    have hl1 : ([45] : Str).length = 1 := rfl
    refine callF_of Tryz.func22 rfl Tryz.ntmps22 Tryz.results22 (by decide) rfl ?_
    simp (disch := omega) only [go_sem, ↓cw_block, dsB_of, hm]
    refine call_to (r1Digits_pos 6 (by omega) (by omega)) ?_
    intro r1 H1 hv
    refine Hush.out ?_
    obtain ⟨rfl, f1⟩ := hv
    refine ⟨?_⟩
    simp (disch := omega) only [go_sem, ↓cw_block, dsB_of, hl1]
    exact fin ⟨rfl, f1⟩
  · rw [if_neg h0]
    obtain ⟨m, rfl⟩ : ∃ m : Nat, n = m := ⟨n.toNat, by omega⟩
    simp only [Int.toNat_natCast]
    exact r1Digits_pos 6 (by omega) (by omega)
end
end Go.Proofs.YtpkfgoemhcgpdaaGreatDoor

namespace Go.HL
section
variable {P : Program} {H : Heap} {t t' ty e : TypeId} {a : Addr} {k : Value → Heap → Prop}
theorem usd_some {n c : Nat} (hc : c ≠ 0) (hk : k (.pointer (some a)) H) : @usdB P t ty (.slice (some a) n c) ⟨H⟩ ⟨k⟩ := by
  obtain ⟨c, rfl⟩ : ∃ j, c = j + 1 := ⟨c - 1, by omega⟩
  exact hk
theorem usd_none {n c : Nat} (hk : k (.pointer none) H) : @usdB P t ty (.slice none n c) ⟨H⟩ ⟨k⟩ := hk
theorem ust_none (hk : k (.string (bs [])) H) : @ustB P t t' ty (.pointer none) (.int .i64 0) ⟨H⟩ ⟨k⟩ := hk
theorem lies_bytes (hc : P.cellsOf e = 1) (count off n : Nat) (hn : off + n ≤ count) : liesAt P P.depth e count off e n = true := by
  have hd : P.depth = (2 * (P.types.size + Made.depth) + 1) + 1 := rfl
  rw [hd]
  simp only [liesAt, Bool.or_eq_true]
  left
  rw [hd]
  simp [rowAt, hc, hn, sameLayout, Nat.mod_one]
theorem qrun_loadBytes : ∀ (l : List UInt8) (a : Addr) (acc : ByteArray), (∀ j x, l[j]? = some x → cellH H (a.add j) = some (.int .u8 x.toNat)) →
    qrun P (loadBytes a acc l.length) H = some ⟨acc.data ++ l.toArray⟩
  | [], a, acc, _ => by simp [loadBytes, pure, qrun]
  | x :: l, a, acc, h => by
    have h0 : cellH H a = some (.int .u8 x.toNat) := by
      have := h 0 x rfl
      simpa [Addr.add] using this
    have ih := qrun_loadBytes l (a.add 1) (acc.push x) (fun j y hy => by
      have := h (j + 1) y (by simpa using hy)
      have e : (a.add 1).add j = a.add (j + 1) := by
        unfold Addr.add
        by_cases hj : j = 0
        · subst hj; simp
        · simp [hj]; omega
      rw [e]; exact this)
    have hx : ((x.toNat : Int).toNat).toUInt8 = x := by simp
    simp only [List.length_cons, loadBytes]
    rw [qrun_bind', qrun_load h0, Option.bind_some]
    simp only [hx]
    rw [ih]
    congr 1
    apply ByteArray.ext
    simp [ByteArray.push]
theorem freeze_fr {n : Nat} : Fr [a.block] H (freezeH H a n) := by
  unfold freezeH
  split
  · exact Fr.refl _ _
  · refine ⟨by simp, fun b hb hF => ?_⟩
    rw [Array.getElem?_modify, if_neg (by simp at hF; omega)]
theorem ust_some {l : List UInt8} {pre rest : List Value} {b : Nat} (hp : P.underlying t = some (.pointer e)) (hc : P.cellsOf e = 1) (hb : Blk H b e (pre ++ l.map u8v ++ rest)) (hl : l ≠ []) (hn : l.length ≤ 9223372036854775807)
    (hk : k (.string (bs l)) (freezeH H ⟨b, pre.length, none⟩ l.length)) : @ustB P t t' ty (.pointer (some ⟨b, pre.length, none⟩)) (.int .i64 l.length) ⟨H⟩ ⟨k⟩ := by
  have hl0 : 0 < l.length := List.length_pos_iff.2 hl
  have hmax : IntKind.i64.max = 9223372036854775807 := rfl
  show hwp P (Builtin.unsafeString_ #[t, t'] ty #[.pointer (some ⟨b, pre.length, none⟩), .int .i64 l.length]) H k _
  have hdef : Builtin.unsafeString_ #[t, t'] ty #[.pointer (some ⟨b, pre.length, none⟩), .int .i64 l.length] =
      (do
        let n ← asInt (.int .i64 l.length)
        if n < 0 then runtimePanic (.error "unsafe.String: len out of range")
        if n > IntKind.i64.max then unsupported (.unsafePointer "String: a length above the largest int")
        if n = 0 then pure (.string .empty)
        else if ← variablesAt ⟨b, pre.length, none⟩ (← elemOf t) n.toNat then do
          let s ← loadBytes ⟨b, pre.length, none⟩ .empty n.toNat
          freeze ⟨b, pre.length, none⟩ n.toNat
          pure (.string s)
        else unsupported (.unsafePointer "String: not so many bytes at ptr")) := rfl
  rw [hdef]
  refine hwp_qbind (a := (l.length : Int)) rfl ?_
  have n1 : ¬ ((l.length : Int) < 0) := by omega
  have n2 : ¬ ((l.length : Int) > IntKind.i64.max) := by rw [hmax]; omega
  have n3 : ¬ ((l.length : Int) = 0) := by omega
  simp only [if_neg n1, if_neg n2, if_neg n3]
  refine hwp_qbind (a := e) (by unfold elemOf; rw [qrun_bind', qrun_underlying hp, Option.bind_some]; rfl) ?_
  simp only [Int.toNat_natCast]
  have hsh : shapeH H b = some (e, (pre ++ l.map u8v ++ rest).length) := by
    unfold shapeH
    have : H[b]? = some (.cells (pre ++ l.map u8v ++ rest).toArray e (0, 0)) := hb
    rw [this]; simp
  have hva : qrun P (variablesAt ⟨b, pre.length, none⟩ e l.length) H = some true := by
    unfold variablesAt
    rw [qrun_bind']
    simp only [program, qrun, Option.bind_some]
    rw [qrun_bind']
    simp only [shape, qrun, hsh, Option.bind_some]
    show some (liesAt P P.depth e _ _ e _) = some true
    rw [hc, lies_bytes hc _ _ _ (by simp)]
  refine hwp_qbind hva ?_
  simp only [if_true]
  have hlb := qrun_loadBytes (P := P) (H := H) l ⟨b, pre.length, none⟩ .empty (by
    intro j x hx
    rw [addr_add, hb.cell, List.append_assoc, List.getElem?_append_right (by omega), Nat.add_sub_cancel_left, List.getElem?_append_left (by
      have := (List.getElem?_eq_some_iff.1 hx).1
      simpa using this), List.getElem?_map, hx]
    rfl)
  refine hwp_qbind hlb ?_
  rw [hwp_bind']
  have : (⟨ByteArray.empty.data ++ l.toArray⟩ : ByteArray) = bs l := by
    apply ByteArray.ext
    simp [bs]
  rw [this]
  exact hk
theorem ptr_same_neq {n : Nat} {xo yo : Operand} (hu : P.underlying t = some (.pointer e)) (hs : sizeT P e = some (n + 1)) : binV P (full H) .neq t xo yo (.pointer (some a)) (.pointer (some a)) = some (.bool false) := by
  show qrun P (do eqGuard .neq t xo yo (.pointer (some a)) (.pointer (some a)); binOp .neq t (.pointer (some a)) (.pointer (some a))) H = _
  rw [qrun_bind']
  show qrun P (do pure (Value.bool (!(← Op.equal t (.pointer (some a)) (.pointer (some a)))))) H = _
  have e1 : qrun P (Op.equal t (.pointer (some a)) (.pointer (some a))) H = some true := by
    unfold Op.equal Op.maxDepth Op.equalIn
    rw [qrun_bind', qrun_underlying hu, Option.bind_some]
    simp only
    rw [qrun_bind', qrun_sizeOf hs, Option.bind_some, if_pos (by simp)]
    unfold sameAddr
    simp [qrun, pure]
  rw [qrun_bind', e1]
  rfl
end
end Go.HL

namespace Go.Proofs.YtpkfgoemhcgpdaaGreatDoor
open Go.HL
set_option maxRecDepth 10000
set_option linter.unusedSimpArgs false
set_option linter.unusedVariables false

/-- The package-level tables, as the program's text lays them. -/
structure GT (H : Heap) : Prop where
  pw : ∀ i : Nat, i < 20 → cellH H ⟨2, i, none⟩ = some (.int .u64 ((10 ^ i : Nat) : Int))
def smL : Str := (List.append (List.append [48, 48, 48, 49, 48, 50, 48, 51, 48, 52, 48, 53, 48, 54, 48, 55, 48, 56, 48, 57, 49, 48, 49, 49, 49, 50, 49, 51, 49, 52, 49, 53, 49, 54, 49, 55, 49, 56, 49, 57, 50, 48, 50, 49, 50, 50, 50, 51, 50, 52] [50, 53, 50, 54, 50, 55, 50, 56, 50, 57, 51, 48, 51, 49, 51, 50, 51, 51, 51, 52, 51, 53, 51, 54, 51, 55, 51, 56, 51, 57, 52, 48, 52, 49, 52, 50, 52, 51, 52, 52, 52, 53, 52, 54, 52, 55, 52, 56, 52, 57]) (List.append [53, 48, 53, 49, 53, 50, 53, 51, 53, 52, 53, 53, 53, 54, 53, 55, 53, 56, 53, 57, 54, 48, 54, 49, 54, 50, 54, 51, 54, 52, 54, 53, 54, 54, 54, 55, 54, 56, 54, 57, 55, 48, 55, 49, 55, 50, 55, 51, 55, 52] [55, 53, 55, 54, 55, 55, 55, 56, 55, 57, 56, 48, 56, 49, 56, 50, 56, 51, 56, 52, 56, 53, 56, 54, 56, 55, 56, 56, 56, 57, 57, 48, 57, 49, 57, 50, 57, 51, 57, 52, 57, 53, 57, 54, 57, 55, 57, 56, 57, 57]) : List UInt8)
def l8L : Str := (List.append (List.append [0, 1, 2, 2, 3, 3, 3, 3, 4, 4, 4, 4, 4, 4, 4, 4, 5, 5, 5, 5, 5, 5, 5, 5, 5, 5, 5, 5, 5, 5, 5, 5, 6, 6, 6, 6, 6, 6, 6, 6, 6, 6, 6, 6, 6, 6, 6, 6, 6, 6, 6, 6, 6, 6, 6, 6, 6, 6, 6, 6, 6, 6, 6, 6] [7, 7, 7, 7, 7, 7, 7, 7, 7, 7, 7, 7, 7, 7, 7, 7, 7, 7, 7, 7, 7, 7, 7, 7, 7, 7, 7, 7, 7, 7, 7, 7, 7, 7, 7, 7, 7, 7, 7, 7, 7, 7, 7, 7, 7, 7, 7, 7, 7, 7, 7, 7, 7, 7, 7, 7, 7, 7, 7, 7, 7, 7, 7, 7]) (List.append [8, 8, 8, 8, 8, 8, 8, 8, 8, 8, 8, 8, 8, 8, 8, 8, 8, 8, 8, 8, 8, 8, 8, 8, 8, 8, 8, 8, 8, 8, 8, 8, 8, 8, 8, 8, 8, 8, 8, 8, 8, 8, 8, 8, 8, 8, 8, 8, 8, 8, 8, 8, 8, 8, 8, 8, 8, 8, 8, 8, 8, 8, 8, 8] [8, 8, 8, 8, 8, 8, 8, 8, 8, 8, 8, 8, 8, 8, 8, 8, 8, 8, 8, 8, 8, 8, 8, 8, 8, 8, 8, 8, 8, 8, 8, 8, 8, 8, 8, 8, 8, 8, 8, 8, 8, 8, 8, 8, 8, 8, 8, 8, 8, 8, 8, 8, 8, 8, 8, 8, 8, 8, 8, 8, 8, 8, 8, 8]) : List UInt8)
theorem smL_hi : ∀ k, k < 100 → bt8 smL (k * 2) = dig1 (k / 10) := by decide +kernel
theorem smL_lo : ∀ k, k < 100 → bt8 smL (k * 2 + 1) = dig1 (k % 10) := by decide +kernel
theorem smL_len : smL.length = 200 := by decide +kernel
theorem l8L_len : l8L.length = 256 := by decide +kernel
theorem l8L_at : ∀ k, k < 256 → 1 ≤ k → 1 ≤ (bt8 l8L k).toNat ∧ (bt8 l8L k).toNat ≤ 8 ∧ 2 ^ ((bt8 l8L k).toNat - 1) ≤ k ∧ k < 2 ^ (bt8 l8L k).toNat := by decide +kernel
theorem small_two : ∀ k, k < 100 → 10 ≤ k → (smL.take (k * 2 + 2)).drop (k * 2) = digF 7 k := by decide +kernel
theorem small_one : ∀ k, k < 10 → (([48, 49, 50, 51, 52, 53, 54, 55, 56, 57, 97, 98, 99, 100, 101, 102, 103, 104, 105, 106, 107, 108, 109, 110, 111, 112, 113, 114, 115, 116, 117, 118, 119, 120, 121, 122] : Str).take (k + 1)).drop k = digF 7 k := by decide +kernel
section
variable {H : Heap}
theorem isSmall_spec {n : Nat} (h : n < 100) : CallF Tryz.prog 70 [iv n] H (fun r H' => H = H' ∧ r = sv (digF 7 n)) NoP := by
  have e1 : (n : Int) + 1 = ((n + 1 : Nat) : Int) := by omega
  have e2 : (n : Int) * 2 = ((n * 2 : Nat) : Int) := by omega
  have e3 : ((n * 2 : Nat) : Int) + 2 = ((n * 2 + 2 : Nat) : Int) := by omega
  have hs : ((List.append (List.append [48, 48, 48, 49, 48, 50, 48, 51, 48, 52, 48, 53, 48, 54, 48, 55, 48, 56, 48, 57, 49, 48, 49, 49, 49, 50, 49, 51, 49, 52, 49, 53, 49, 54, 49, 55, 49, 56, 49, 57, 50, 48, 50, 49, 50, 50, 50, 51, 50, 52] [50, 53, 50, 54, 50, 55, 50, 56, 50, 57, 51, 48, 51, 49, 51, 50, 51, 51, 51, 52, 51, 53, 51, 54, 51, 55, 51, 56, 51, 57, 52, 48, 52, 49, 52, 50, 52, 51, 52, 52, 52, 53, 52, 54, 52, 55, 52, 56, 52, 57]) (List.append [53, 48, 53, 49, 53, 50, 53, 51, 53, 52, 53, 53, 53, 54, 53, 55, 53, 56, 53, 57, 54, 48, 54, 49, 54, 50, 54, 51, 54, 52, 54, 53, 54, 54, 54, 55, 54, 56, 54, 57, 55, 48, 55, 49, 55, 50, 55, 51, 55, 52] [55, 53, 55, 54, 55, 55, 55, 56, 55, 57, 56, 48, 56, 49, 56, 50, 56, 51, 56, 52, 56, 53, 56, 54, 56, 55, 56, 56, 56, 57, 57, 48, 57, 49, 57, 50, 57, 51, 57, 52, 57, 53, 57, 54, 57, 55, 57, 56, 57, 57]) : List UInt8)).length = 200 := smL_len
  refine callF_of Tryz.func70 rfl Tryz.ntmps70 Tryz.results70 (by decide) rfl ?_
  by_cases h1 : n < 10
  · have hd : ([48, 49, 50, 51, 52, 53, 54, 55, 56, 57, 97, 98, 99, 100, 101, 102, 103, 104, 105, 106, 107, 108, 109, 110, 111, 112, 113, 114, 115, 116, 117, 118, 119, 120, 121, 122] : Str).length = 36 := rfl
    simp (disch := omega) only [go_sem, ↓cw_block, dsB_of, e1, hd]
    exact fin ⟨rfl, congrArg (fun l => sv l) (small_one n h1)⟩
  · simp (disch := omega) only [go_sem, ↓cw_block, dsB_of, e2, e3, hs]
    exact fin ⟨rfl, congrArg (fun l => sv l) (small_two n h (by omega))⟩
theorem mbLen_spec {u : Nat} (h1 : 1 ≤ u) (h2 : u ≤ 16777215) : CallF Tryz.prog 91 [.int .u64 u] H (fun r H' => H = H' ∧ ∃ L : Nat, r = iv L ∧ 1 ≤ L ∧ L ≤ 24 ∧ 2 ^ (L - 1) ≤ u ∧ u < 2 ^ L) NoP := by
  have hs : ((List.append (List.append [0, 1, 2, 2, 3, 3, 3, 3, 4, 4, 4, 4, 4, 4, 4, 4, 5, 5, 5, 5, 5, 5, 5, 5, 5, 5, 5, 5, 5, 5, 5, 5, 6, 6, 6, 6, 6, 6, 6, 6, 6, 6, 6, 6, 6, 6, 6, 6, 6, 6, 6, 6, 6, 6, 6, 6, 6, 6, 6, 6, 6, 6, 6, 6] [7, 7, 7, 7, 7, 7, 7, 7, 7, 7, 7, 7, 7, 7, 7, 7, 7, 7, 7, 7, 7, 7, 7, 7, 7, 7, 7, 7, 7, 7, 7, 7, 7, 7, 7, 7, 7, 7, 7, 7, 7, 7, 7, 7, 7, 7, 7, 7, 7, 7, 7, 7, 7, 7, 7, 7, 7, 7, 7, 7, 7, 7, 7, 7]) (List.append [8, 8, 8, 8, 8, 8, 8, 8, 8, 8, 8, 8, 8, 8, 8, 8, 8, 8, 8, 8, 8, 8, 8, 8, 8, 8, 8, 8, 8, 8, 8, 8, 8, 8, 8, 8, 8, 8, 8, 8, 8, 8, 8, 8, 8, 8, 8, 8, 8, 8, 8, 8, 8, 8, 8, 8, 8, 8, 8, 8, 8, 8, 8, 8] [8, 8, 8, 8, 8, 8, 8, 8, 8, 8, 8, 8, 8, 8, 8, 8, 8, 8, 8, 8, 8, 8, 8, 8, 8, 8, 8, 8, 8, 8, 8, 8, 8, 8, 8, 8, 8, 8, 8, 8, 8, 8, 8, 8, 8, 8, 8, 8, 8, 8, 8, 8, 8, 8, 8, 8, 8, 8, 8, 8, 8, 8, 8, 8]) : List UInt8)).length = 256 := l8L_len
  have fin' : ∀ (v k : Nat), u / 2 ^ k = v → v < 256 → 1 ≤ v → k ≤ 16 → 1 ≤ k + (bt8 l8L v).toNat ∧ k + (bt8 l8L v).toNat ≤ 24 ∧ 2 ^ (k + (bt8 l8L v).toNat - 1) ≤ u ∧ u < 2 ^ (k + (bt8 l8L v).toNat) := by
    intro v k hv h3 h4 h5
    obtain ⟨a1, a2, a3, a4⟩ := l8L_at v h3 h4
    have hp : 0 < 2 ^ k := Nat.two_pow_pos k
    refine ⟨by omega, by omega, ?_, ?_⟩
    · have e : k + (bt8 l8L v).toNat - 1 = ((bt8 l8L v).toNat - 1) + k := by omega
      rw [e, Nat.pow_add]
      have := Nat.mul_le_mul_right (2 ^ k) a3
      have h6 := Nat.div_mul_le_self u (2 ^ k)
      rw [hv] at h6
      omega
    · rw [Nat.add_comm, Nat.pow_add]
      have h6 : u < (v + 1) * 2 ^ k := by
        have := Nat.lt_mul_div_succ u hp
        rw [hv, Nat.mul_comm] at this
        exact this
      have := Nat.mul_le_mul_right (2 ^ k) (show v + 1 ≤ 2 ^ (bt8 l8L v).toNat by omega)
      omega
  have done : ∀ (v k : Nat), u / 2 ^ k = v → v < 256 → 1 ≤ v → k ≤ 16 → ∃ L : Nat, Value.int .i64 (IntKind.i64.wrap ((k : Int) + IntKind.i64.wrap ((bt8 l8L v).toNat : Int))) = iv L ∧ 1 ≤ L ∧ L ≤ 24 ∧ 2 ^ (L - 1) ≤ u ∧ u < 2 ^ L := by
    intro v k hv h3 h4 h5
    obtain ⟨a1, a2, a3, a4⟩ := l8L_at v h3 h4
    refine ⟨k + (bt8 l8L v).toNat, ?_, fin' v k hv h3 h4 h5⟩
    rw [wrap64 (n := ((bt8 l8L v).toNat : Int)) (by omega), wrap64 (by omega)]
    congr 1
  have e8 : ((u : Int)).fdiv (2 ^ min 8 64) = ((u / 256 : Nat) : Int) := by
    rw [Int.fdiv_eq_ediv_of_nonneg _ (by decide)]
    have : ((2 : Int) ^ min 8 64) = 256 := by decide
    rw [this]; omega
  have e16 : ((u : Int)).fdiv (2 ^ min 16 64) = ((u / 65536 : Nat) : Int) := by
    rw [Int.fdiv_eq_ediv_of_nonneg _ (by decide)]
    have : ((2 : Int) ^ min 16 64) = 65536 := by decide
    rw [this]; omega
  refine callF_of Tryz.func91 rfl Tryz.ntmps91 Tryz.results91 (by decide) rfl ?_
  by_cases c1 : u < 256
  · simp (disch := omega) only [go_sem, ↓cw_block, dsB_of, IntWalk.u8_in, hs]
    exact fin ⟨rfl, done u 0 (by simp) c1 h1 (by omega)⟩
  · by_cases c2 : u < 65536
    · simp (disch := omega) only [go_sem, ↓cw_block, dsB_of, IntWalk.u8_in, hs, e8]
      exact fin ⟨rfl, done (u / 256) 8 rfl (by omega) (by omega) (by omega)⟩
    · simp (disch := omega) only [go_sem, ↓cw_block, dsB_of, IntWalk.u8_in, hs, e16]
      exact fin ⟨rfl, done (u / 65536) 16 rfl (by omega) (by omega) (by omega)⟩
theorem isLog_spec {L : Nat} (h : L ≤ 1000) : CallF Tryz.prog 90 [iv L] H (fun r H' => H = H' ∧ r = iv ((L * 78913 / 262144 : Nat) : Int)) NoP := by
  have e18 : ((L : Int) * 78913).fdiv (2 ^ min 18 64) = ((L * 78913 / 262144 : Nat) : Int) := by
    rw [Int.fdiv_eq_ediv_of_nonneg _ (by decide)]
    have : ((2 : Int) ^ min 18 64) = 262144 := by decide
    rw [this]; omega
  refine callF_of Tryz.func90 rfl Tryz.ntmps90 Tryz.results90 (by decide) rfl ?_
  simp (disch := omega) only [go_sem, ↓cw_block, dsB_of, e18]
  exact fin ⟨rfl, rfl⟩
theorem isBool_spec {b : Bool} : CallF Tryz.prog 92 [.bool b] H (fun r H' => H = H' ∧ r = iv (if b then 1 else 0)) NoP := by
  refine callF_of Tryz.func92 rfl Tryz.ntmps92 Tryz.results92 (by decide) rfl ?_
  cases b
  · simp (disch := omega) only [go_sem, ↓cw_block, dsB_of]
    exact fin ⟨rfl, rfl⟩
  · simp (disch := omega) only [go_sem, ↓cw_block, dsB_of]
    exact fin ⟨rfl, rfl⟩
/-- How many digits a number has. -/
def nDig (u : Nat) : Nat := if u < 10 then 1 else if u < 100 then 2 else if u < 1000 then 3 else if u < 10000 then 4 else if u < 100000 then 5 else 6
theorem isNumDigits_spec (g : GT H) {u : Nat} (h1 : 1 ≤ u) (h2 : u ≤ 999999) : CallF Tryz.prog 71 [.int .u64 u] H (fun r H' => H = H' ∧ r = iv (nDig u)) NoP := by
  refine callF_of Tryz.func71 rfl Tryz.ntmps71 Tryz.results71 (by decide) rfl ?_
  simp (disch := omega) only [go_sem, ↓cw_block, dsB_of]
  refine call_to (mbLen_spec h1 (by omega)) ?_
  rintro _ _ ⟨rfl, L, rfl, l1, l2, l3, l4⟩
  simp (disch := omega) only [go_sem, ↓cw_block, dsB_of]
  refine call_to (isLog_spec (by omega)) ?_
  rintro _ _ ⟨rfl, rfl⟩
  have hL : L ≤ 20 := by
    rcases Nat.lt_or_ge 20 L with h | h
    · have : 2 ^ 20 ≤ 2 ^ (L - 1) := Nat.pow_le_pow_right (by omega) (by omega)
      omega
    · exact h
  obtain ⟨t, ht⟩ : ∃ t, t = L * 78913 / 262144 := ⟨_, rfl⟩
  rw [← ht]
  have ht6 : t ≤ 6 := by omega
  have hp := g.pw t (by omega)
  have key : (t + (if 10 ^ t ≤ u then 1 else 0) : Nat) = nDig u := by
    have : L = 1 ∨ L = 2 ∨ L = 3 ∨ L = 4 ∨ L = 5 ∨ L = 6 ∨ L = 7 ∨ L = 8 ∨ L = 9 ∨ L = 10 ∨ L = 11 ∨ L = 12 ∨ L = 13 ∨ L = 14 ∨ L = 15 ∨ L = 16 ∨ L = 17 ∨ L = 18 ∨ L = 19 ∨ L = 20 := by omega
    unfold nDig
    rcases this with rfl | rfl | rfl | rfl | rfl | rfl | rfl | rfl | rfl | rfl | rfl | rfl | rfl | rfl | rfl | rfl | rfl | rfl | rfl | rfl
    all_goals
      simp only [Nat.reduceMul, Nat.reduceDiv] at ht
      subst ht
      simp only [Nat.reduceSub, Nat.reducePow] at l3 l4 ⊢
      repeat' split
      all_goals omega
  by_cases hc : 10 ^ t ≤ u
  · rw [if_pos hc] at key
    have hci : (((10 ^ t : Nat) : Int)) ≤ (u : Int) := by exact_mod_cast hc
    simp (disch := omega) only [go_sem, ↓cw_block, dsB_of, hp, hci]
    refine call_to isBool_spec ?_
    rintro _ _ ⟨rfl, rfl⟩
    have : (t : Int) + 1 = (nDig u : Int) := by omega
    simp (disch := omega) only [go_sem, ↓cw_block, dsB_of, this]
    exact fin ⟨rfl, rfl⟩
  · rw [if_neg hc] at key
    have hci : ¬ ((((10 ^ t : Nat) : Int)) ≤ (u : Int)) := by exact_mod_cast hc
    simp (disch := omega) only [go_sem, ↓cw_block, dsB_of, hp, hci]
    refine call_to isBool_spec ?_
    rintro _ _ ⟨rfl, rfl⟩
    have : (t : Int) + 0 = (nDig u : Int) := by omega
    simp (disch := omega) only [go_sem, ↓cw_block, dsB_of, this]
    exact fin ⟨rfl, congrArg iv (by simpa using this)⟩
end
end Go.Proofs.YtpkfgoemhcgpdaaGreatDoor

namespace Go.HL
set_option linter.unusedSimpArgs false
set_option linter.unusedVariables false
theorem qrun_forIn {P : Program} {H : Heap} {f : Value → ByteArray → Sem (ForInStep ByteArray)} (hf : ∀ (c : UInt8) acc, f (u8v c) acc = pure (ForInStep.yield (acc.push c))) : ∀ (l : List UInt8) (acc : ByteArray),
    qrun P (forIn (l.map u8v) acc f) H = some ⟨acc.data ++ l.toArray⟩
  | [], acc => by simp [pure, qrun]
  | c :: l, acc => by
    rw [List.map_cons, List.forIn_cons, hf]
    show qrun P (forIn (l.map u8v) (acc.push c) f) H = _
    rw [qrun_forIn hf l (acc.push c)]
    congr 1
    apply ByteArray.ext
    simp [ByteArray.push]
/-- Bytes as a text. -/
theorem conv_bytes {P : Program} {H : Heap} {s d e b c t : Nat} {l : List UInt8} {pre rest : List Value} (hs : P.underlying s = some (.slice e)) (he : P.underlying e = some (.int .u8)) (hd : P.underlying d = some .string) (hb : Blk H b t (pre ++ l.map u8v ++ rest)) :
    convV P (full H) s d (.slice (some ⟨b, pre.length, none⟩) l.length c) = some (.string (bs l)) := by
  show qrun P (convert s d (.slice (some ⟨b, pre.length, none⟩) l.length c)) H = _
  unfold convert
  rw [qrun_bind', qrun_underlying hs, Option.bind_some, qrun_bind', qrun_underlying hd, Option.bind_some]
  show qrun P (do match ← underlying e with
    | .int .u8 => Conv.bytesToString (.slice (some ⟨b, pre.length, none⟩) l.length c)
    | .int .i32 => Conv.runesToString (.slice (some ⟨b, pre.length, none⟩) l.length c)
    | _ => stuck "Convert: a slice of what to string?") H = _
  rw [qrun_bind', qrun_underlying he, Option.bind_some]
  show qrun P (Conv.bytesToString (.slice (some ⟨b, pre.length, none⟩) l.length c)) H = _
  unfold Conv.bytesToString
  dsimp only
  have hl : qrun P (loadCells ⟨b, pre.length, none⟩ l.length) H = some (l.map u8v).toArray := by
    unfold loadCells
    have h1 := Blk.cells hb
    rw [List.length_map] at h1
    have := qrun_loadCellsFrom (P := P) (H := H) (a := ⟨b, pre.length, none⟩) l.length 0 #[] _ h1
    simpa using this
  rw [qrun_bind', hl, Option.bind_some, qrun_bind', ← Array.forIn_toList]
  rw [qrun_forIn (by intro c acc; simp [u8v]) l ByteArray.empty]
  have e1 : (⟨ByteArray.empty.data ++ l.toArray⟩ : ByteArray) = bs l := by
    apply ByteArray.ext
    simp [bs]
  rw [e1]
  rfl
end Go.HL
namespace Go.Proofs.YtpkfgoemhcgpdaaGreatDoor
open Go.HL
set_option maxRecDepth 10000
set_option linter.unusedSimpArgs false
set_option linter.unusedVariables false

abbrev z8 : Value := .int .u8 0
section
variable {H : Heap} {b : Nat} {c0 : Value}
theorem digF_c : ∀ {m : Nat}, m ≤ 999999 → digF 7 m = (if m < 10 then [dig1 m] else if m < 100 then [dig1 (m / 10), dig1 (m % 10)] else if m < 1000 then [dig1 (m / 100), dig1 (m / 10 % 10), dig1 (m % 10)]
    else if m < 10000 then [dig1 (m / 1000), dig1 (m / 100 % 10), dig1 (m / 10 % 10), dig1 (m % 10)] else if m < 100000 then [dig1 (m / 10000), dig1 (m / 1000 % 10), dig1 (m / 100 % 10), dig1 (m / 10 % 10), dig1 (m % 10)]
    else [dig1 (m / 100000), dig1 (m / 10000 % 10), dig1 (m / 1000 % 10), dig1 (m / 100 % 10), dig1 (m / 10 % 10), dig1 (m % 10)]) := by
  intro m hm
  have d1 : m / 10 / 10 = m / 100 := by omega
  have d2 : m / 100 / 10 = m / 1000 := by omega
  have d3 : m / 1000 / 10 = m / 10000 := by omega
  have d4 : m / 10000 / 10 = m / 100000 := by omega
  have d5 : m / 100000 < 10 := by omega
  simp only [digF, d1, d2, d3, d4, if_pos d5]
  by_cases c1 : m < 10
  · rw [if_pos c1, if_pos c1]
  rw [if_neg c1, if_neg c1]
  by_cases c2 : m < 100
  · rw [if_pos (show m / 10 < 10 by omega), if_pos c2]; rfl
  rw [if_neg (show ¬ m / 10 < 10 by omega), if_neg c2]
  by_cases c3 : m < 1000
  · rw [if_pos (show m / 100 < 10 by omega), if_pos c3]; rfl
  rw [if_neg (show ¬ m / 100 < 10 by omega), if_neg c3]
  by_cases c4 : m < 10000
  · rw [if_pos (show m / 1000 < 10 by omega), if_pos c4]; rfl
  rw [if_neg (show ¬ m / 1000 < 10 by omega), if_neg c4]
  by_cases c5 : m < 100000
  · rw [if_pos (show m / 10000 < 10 by omega), if_pos c5]; rfl
  rw [if_neg (show ¬ m / 10000 < 10 by omega), if_neg c5]
  rfl
theorem v_lo {x : Int} {k t : Nat} (h : x = ((k * 2 + 1 : Nat) : Int)) (hk : k < 100) (ht : k % 10 = t) : u8v (bt8 (List.append (List.append [48, 48, 48, 49, 48, 50, 48, 51, 48, 52, 48, 53, 48, 54, 48, 55, 48, 56, 48, 57, 49, 48, 49, 49, 49, 50, 49, 51, 49, 52, 49, 53, 49, 54, 49, 55, 49, 56, 49, 57, 50, 48, 50, 49, 50, 50, 50, 51, 50, 52] [50, 53, 50, 54, 50, 55, 50, 56, 50, 57, 51, 48, 51, 49, 51, 50, 51, 51, 51, 52, 51, 53, 51, 54, 51, 55, 51, 56, 51, 57, 52, 48, 52, 49, 52, 50, 52, 51, 52, 52, 52, 53, 52, 54, 52, 55, 52, 56, 52, 57]) (List.append [53, 48, 53, 49, 53, 50, 53, 51, 53, 52, 53, 53, 53, 54, 53, 55, 53, 56, 53, 57, 54, 48, 54, 49, 54, 50, 54, 51, 54, 52, 54, 53, 54, 54, 54, 55, 54, 56, 54, 57, 55, 48, 55, 49, 55, 50, 55, 51, 55, 52] [55, 53, 55, 54, 55, 55, 55, 56, 55, 57, 56, 48, 56, 49, 56, 50, 56, 51, 56, 52, 56, 53, 56, 54, 56, 55, 56, 56, 56, 57, 57, 48, 57, 49, 57, 50, 57, 51, 57, 52, 57, 53, 57, 54, 57, 55, 57, 56, 57, 57]) : List UInt8) x.toNat) = u8v (dig1 t) := by
  subst h ht
  rw [Int.toNat_natCast]
  exact congrArg u8v (smL_lo k hk)
theorem v_hi {x : Int} {k t : Nat} (h : x = ((k * 2 : Nat) : Int)) (hk : k < 100) (ht : k / 10 = t) : u8v (bt8 (List.append (List.append [48, 48, 48, 49, 48, 50, 48, 51, 48, 52, 48, 53, 48, 54, 48, 55, 48, 56, 48, 57, 49, 48, 49, 49, 49, 50, 49, 51, 49, 52, 49, 53, 49, 54, 49, 55, 49, 56, 49, 57, 50, 48, 50, 49, 50, 50, 50, 51, 50, 52] [50, 53, 50, 54, 50, 55, 50, 56, 50, 57, 51, 48, 51, 49, 51, 50, 51, 51, 51, 52, 51, 53, 51, 54, 51, 55, 51, 56, 51, 57, 52, 48, 52, 49, 52, 50, 52, 51, 52, 52, 52, 53, 52, 54, 52, 55, 52, 56, 52, 57]) (List.append [53, 48, 53, 49, 53, 50, 53, 51, 53, 52, 53, 53, 53, 54, 53, 55, 53, 56, 53, 57, 54, 48, 54, 49, 54, 50, 54, 51, 54, 52, 54, 53, 54, 54, 54, 55, 54, 56, 54, 57, 55, 48, 55, 49, 55, 50, 55, 51, 55, 52] [55, 53, 55, 54, 55, 55, 55, 56, 55, 57, 56, 48, 56, 49, 56, 50, 56, 51, 56, 52, 56, 53, 56, 54, 56, 55, 56, 56, 56, 57, 57, 48, 57, 49, 57, 50, 57, 51, 57, 52, 57, 53, 57, 54, 57, 55, 57, 56, 57, 57]) : List UInt8) x.toNat) = u8v (dig1 t) := by
  subst h ht
  rw [Int.toNat_natCast]
  exact congrArg u8v (smL_hi k hk)
theorem d_one {x : Int} {t : Nat} (h : x = ((t + 48 : Nat) : Int)) (ht : t < 10) : Value.int .u8 x = u8v (dig1 t) := by
  subst h
  have : ∀ t, t < 10 → (dig1 t).toNat = t + 48 := by decide
  rw [← this t ht]
set_option maxHeartbeats 2000000 in
theorem isBase10_spec {m : Nat} (h1 : 1 ≤ m) (h2 : m ≤ 999999) (hb : Blk H b 125 (c0 :: List.replicate 23 z8)) :
    CallF Tryz.prog 72 [.slice (some ⟨b, 1, none⟩) (nDig m) 23, .int .u64 m] H (fun _ H' => Blk H' b 125 ([c0] ++ (digF 7 m).map u8v ++ List.replicate (23 - nDig m) z8) ∧ Fr [b] H H') NoP := by
  have hs : ((List.append (List.append [48, 48, 48, 49, 48, 50, 48, 51, 48, 52, 48, 53, 48, 54, 48, 55, 48, 56, 48, 57, 49, 48, 49, 49, 49, 50, 49, 51, 49, 52, 49, 53, 49, 54, 49, 55, 49, 56, 49, 57, 50, 48, 50, 49, 50, 50, 50, 51, 50, 52] [50, 53, 50, 54, 50, 55, 50, 56, 50, 57, 51, 48, 51, 49, 51, 50, 51, 51, 51, 52, 51, 53, 51, 54, 51, 55, 51, 56, 51, 57, 52, 48, 52, 49, 52, 50, 52, 51, 52, 52, 52, 53, 52, 54, 52, 55, 52, 56, 52, 57]) (List.append [53, 48, 53, 49, 53, 50, 53, 51, 53, 52, 53, 53, 53, 54, 53, 55, 53, 56, 53, 57, 54, 48, 54, 49, 54, 50, 54, 51, 54, 52, 54, 53, 54, 54, 54, 55, 54, 56, 54, 57, 55, 48, 55, 49, 55, 50, 55, 51, 55, 52] [55, 53, 55, 54, 55, 55, 55, 56, 55, 57, 56, 48, 56, 49, 56, 50, 56, 51, 56, 52, 56, 53, 56, 54, 56, 55, 56, 56, 56, 57, 57, 48, 57, 49, 57, 50, 57, 51, 57, 52, 57, 53, 57, 54, 57, 55, 57, 56, 57, 57]) : List UInt8)).length = 200 := smL_len
  have hd6 : nDig m ≤ 6 := by unfold nDig; (repeat' split) <;> omega
  refine callF_of Tryz.func72 rfl Tryz.ntmps72 Tryz.results72 (by decide) rfl ?_
  simp (disch := omega) only [go_sem, ↓cw_block, dsB_of]
  refine loop_by (fun k ρ H2 => H = H2 ∧ (ρ.get 0 = .slice (some ⟨b, 1, none⟩) (nDig m) 23 ∧ ρ.get 1 = .int .u64 m ∧ ρ.get 4 = iv (nDig m) ∧ ρ.ds = [])) (k := 0) ?_ ?_
  · exact ⟨rfl, by simp (disch := omega) only [go_sem, ↓cw_block, dsB_of]⟩
  rintro k ρ _ ⟨rfl, r0, r1, r4, rd⟩
  rw [digF_c h2]
  unfold nDig at *
  by_cases c1 : m < 10
  · simp only [if_pos c1] at *
    have cc : ((1 : Nat) : Int) = 1 := rfl
    rw [cc] at r4
    have w0 : ∀ v0, wr H ⟨b, 1, none⟩ v0 = some (setH H ⟨b, 1, none⟩ v0) := fun v0 => hb.wr (by simp) v0
    have e : ∀ v0, v0 = u8v (dig1 (m)) → Blk (setH H ⟨b, 1, none⟩ v0) b 125 ([c0] ++ ([dig1 (m)]).map u8v ++ List.replicate (23 - 1) z8) ∧ Fr [b] H (setH H ⟨b, 1, none⟩ v0) := by
      rintro _ rfl
      exact ⟨(hb.set 1 _), Fr.set (by simp)⟩
    simp (disch := omega) only [go_sem, ↓cw_block, dsB_of, r0, r1, r4, rd, IntWalk.u32_in, IntWalk.u32_quo, IntWalk.u8_in, IntWalk.rem_in, hs, Int.reduceSub, Int.reduceToNat, Nat.reduceAdd, Int.reduceLE, Int.reduceLT, decide_true, decide_false, w0]
    exact fin (e _ (d_one (by omega) (by omega)))
  by_cases c2 : m < 100
  · have k1 : ¬ m < 10 := by omega
    simp only [if_neg k1, if_pos c2] at *
    have cc : ((2 : Nat) : Int) = 2 := rfl
    rw [cc] at r4
    have w0 : ∀ v0, wr H ⟨b, 2, none⟩ v0 = some (setH H ⟨b, 2, none⟩ v0) := fun v0 => hb.wr (by simp) v0
    have w1 : ∀ v0 v1, wr (setH H ⟨b, 2, none⟩ v0) ⟨b, 1, none⟩ v1 = some (setH (setH H ⟨b, 2, none⟩ v0) ⟨b, 1, none⟩ v1) := fun v0 v1 => (hb.set 2 v0).wr (by simp) v1
    have e : ∀ v0 v1, v0 = u8v (dig1 (m % 10)) → v1 = u8v (dig1 (m / 10)) → Blk (setH (setH H ⟨b, 2, none⟩ v0) ⟨b, 1, none⟩ v1) b 125 ([c0] ++ ([dig1 (m / 10), dig1 (m % 10)]).map u8v ++ List.replicate (23 - 2) z8) ∧ Fr [b] H (setH (setH H ⟨b, 2, none⟩ v0) ⟨b, 1, none⟩ v1) := by
      rintro _ _ rfl rfl
      exact ⟨((hb.set 2 _).set 1 _), (Fr.set (by simp)).trans (Fr.set (by simp))⟩
    simp (disch := omega) only [go_sem, ↓cw_block, dsB_of, r0, r1, r4, rd, IntWalk.u32_in, IntWalk.u32_quo, IntWalk.u8_in, IntWalk.rem_in, hs, Int.reduceSub, Int.reduceToNat, Nat.reduceAdd, Int.reduceLE, Int.reduceLT, decide_true, decide_false, w0, w1]
    refine draw0 (lk [(0, true), (1, true), (2, true), (3, false), (4, false), (5, false), (6, true), (7, true), (8, true), (9, false), (10, false), (11, true)] (.act 12 (lk [(13, true)] (.actd 14 .fin)) .non)) T.mixed ?_
    simp (disch := omega) only [go_sem, ↓cw_block, dsB_of, r0, r1, r4, rd, IntWalk.u32_in, IntWalk.u32_quo, IntWalk.u8_in, IntWalk.rem_in, hs, Int.reduceSub, Int.reduceToNat, Nat.reduceAdd, Int.reduceLE, Int.reduceLT, decide_true, decide_false, w0, w1]
    exact fin (e _ _ (by first | exact v_lo (k := m % 100) (by omega) (by omega) (by omega)) (by first | exact v_hi (k := m % 100) (by omega) (by omega) (by omega)))
  by_cases c3 : m < 1000
  · have k1 : ¬ m < 10 := by omega
    have k2 : ¬ m < 100 := by omega
    simp only [if_neg k1, if_neg k2, if_pos c3] at *
    have cc : ((3 : Nat) : Int) = 3 := rfl
    rw [cc] at r4
    have w0 : ∀ v0, wr H ⟨b, 3, none⟩ v0 = some (setH H ⟨b, 3, none⟩ v0) := fun v0 => hb.wr (by simp) v0
    have w1 : ∀ v0 v1, wr (setH H ⟨b, 3, none⟩ v0) ⟨b, 2, none⟩ v1 = some (setH (setH H ⟨b, 3, none⟩ v0) ⟨b, 2, none⟩ v1) := fun v0 v1 => (hb.set 3 v0).wr (by simp) v1
    have w2 : ∀ v0 v1 v2, wr (setH (setH H ⟨b, 3, none⟩ v0) ⟨b, 2, none⟩ v1) ⟨b, 1, none⟩ v2 = some (setH (setH (setH H ⟨b, 3, none⟩ v0) ⟨b, 2, none⟩ v1) ⟨b, 1, none⟩ v2) := fun v0 v1 v2 => ((hb.set 3 v0).set 2 v1).wr (by simp) v2
    have e : ∀ v0 v1 v2, v0 = u8v (dig1 (m % 10)) → v1 = u8v (dig1 (m / 10 % 10)) → v2 = u8v (dig1 (m / 100)) → Blk (setH (setH (setH H ⟨b, 3, none⟩ v0) ⟨b, 2, none⟩ v1) ⟨b, 1, none⟩ v2) b 125 ([c0] ++ ([dig1 (m / 100), dig1 (m / 10 % 10), dig1 (m % 10)]).map u8v ++ List.replicate (23 - 3) z8) ∧ Fr [b] H (setH (setH (setH H ⟨b, 3, none⟩ v0) ⟨b, 2, none⟩ v1) ⟨b, 1, none⟩ v2) := by
      rintro _ _ _ rfl rfl rfl
      exact ⟨(((hb.set 3 _).set 2 _).set 1 _), ((Fr.set (by simp)).trans (Fr.set (by simp))).trans (Fr.set (by simp))⟩
    simp (disch := omega) only [go_sem, ↓cw_block, dsB_of, r0, r1, r4, rd, IntWalk.u32_in, IntWalk.u32_quo, IntWalk.u8_in, IntWalk.rem_in, hs, Int.reduceSub, Int.reduceToNat, Nat.reduceAdd, Int.reduceLE, Int.reduceLT, decide_true, decide_false, w0, w1, w2]
    refine draw0 (lk [(0, true), (1, true), (2, true), (3, false), (4, false), (5, false), (6, true), (7, true), (8, true), (9, false), (10, false), (11, true)] (.act 12 (lk [(13, true)] (.actd 14 .fin)) .non)) T.mixed ?_
    simp (disch := omega) only [go_sem, ↓cw_block, dsB_of, r0, r1, r4, rd, IntWalk.u32_in, IntWalk.u32_quo, IntWalk.u8_in, IntWalk.rem_in, hs, Int.reduceSub, Int.reduceToNat, Nat.reduceAdd, Int.reduceLE, Int.reduceLT, decide_true, decide_false, w0, w1, w2]
    exact fin (e _ _ _ (by first | exact v_lo (k := m % 100) (by omega) (by omega) (by omega)) (by first | exact v_hi (k := m % 100) (by omega) (by omega) (by omega)) (d_one (by omega) (by omega)))
  by_cases c4 : m < 10000
  · have k1 : ¬ m < 10 := by omega
    have k2 : ¬ m < 100 := by omega
    have k3 : ¬ m < 1000 := by omega
    simp only [if_neg k1, if_neg k2, if_neg k3, if_pos c4] at *
    have cc : ((4 : Nat) : Int) = 4 := rfl
    rw [cc] at r4
    have w0 : ∀ v0, wr H ⟨b, 4, none⟩ v0 = some (setH H ⟨b, 4, none⟩ v0) := fun v0 => hb.wr (by simp) v0
    have w1 : ∀ v0 v1, wr (setH H ⟨b, 4, none⟩ v0) ⟨b, 3, none⟩ v1 = some (setH (setH H ⟨b, 4, none⟩ v0) ⟨b, 3, none⟩ v1) := fun v0 v1 => (hb.set 4 v0).wr (by simp) v1
    have w2 : ∀ v0 v1 v2, wr (setH (setH H ⟨b, 4, none⟩ v0) ⟨b, 3, none⟩ v1) ⟨b, 2, none⟩ v2 = some (setH (setH (setH H ⟨b, 4, none⟩ v0) ⟨b, 3, none⟩ v1) ⟨b, 2, none⟩ v2) := fun v0 v1 v2 => ((hb.set 4 v0).set 3 v1).wr (by simp) v2
    have w3 : ∀ v0 v1 v2 v3, wr (setH (setH (setH H ⟨b, 4, none⟩ v0) ⟨b, 3, none⟩ v1) ⟨b, 2, none⟩ v2) ⟨b, 1, none⟩ v3 = some (setH (setH (setH (setH H ⟨b, 4, none⟩ v0) ⟨b, 3, none⟩ v1) ⟨b, 2, none⟩ v2) ⟨b, 1, none⟩ v3) := fun v0 v1 v2 v3 => (((hb.set 4 v0).set 3 v1).set 2 v2).wr (by simp) v3
    have e : ∀ v0 v1 v2 v3, v0 = u8v (dig1 (m % 10)) → v1 = u8v (dig1 (m / 10 % 10)) → v2 = u8v (dig1 (m / 100 % 10)) → v3 = u8v (dig1 (m / 1000)) → Blk (setH (setH (setH (setH H ⟨b, 4, none⟩ v0) ⟨b, 3, none⟩ v1) ⟨b, 2, none⟩ v2) ⟨b, 1, none⟩ v3) b 125 ([c0] ++ ([dig1 (m / 1000), dig1 (m / 100 % 10), dig1 (m / 10 % 10), dig1 (m % 10)]).map u8v ++ List.replicate (23 - 4) z8) ∧ Fr [b] H (setH (setH (setH (setH H ⟨b, 4, none⟩ v0) ⟨b, 3, none⟩ v1) ⟨b, 2, none⟩ v2) ⟨b, 1, none⟩ v3) := by
      rintro _ _ _ _ rfl rfl rfl rfl
      exact ⟨((((hb.set 4 _).set 3 _).set 2 _).set 1 _), (((Fr.set (by simp)).trans (Fr.set (by simp))).trans (Fr.set (by simp))).trans (Fr.set (by simp))⟩
    simp (disch := omega) only [go_sem, ↓cw_block, dsB_of, r0, r1, r4, rd, IntWalk.u32_in, IntWalk.u32_quo, IntWalk.u8_in, IntWalk.rem_in, hs, Int.reduceSub, Int.reduceToNat, Nat.reduceAdd, Int.reduceLE, Int.reduceLT, decide_true, decide_false, w0, w1, w2, w3]
    refine draw0 (lk [(0, true), (1, true), (2, true), (3, false), (4, false), (5, false), (6, true), (7, true), (8, true), (9, false), (10, false), (11, true)] (.act 12 (lk [(13, true)] (.actd 14 .fin)) .non)) T.mixed ?_
    simp (disch := omega) only [go_sem, ↓cw_block, dsB_of, r0, r1, r4, rd, IntWalk.u32_in, IntWalk.u32_quo, IntWalk.u8_in, IntWalk.rem_in, hs, Int.reduceSub, Int.reduceToNat, Nat.reduceAdd, Int.reduceLE, Int.reduceLT, decide_true, decide_false, w0, w1, w2, w3]
    refine draw0 (lk [(0, true), (1, true), (2, true), (3, false), (4, false), (5, false), (6, true), (7, true), (8, true), (9, false), (10, false), (11, true)] (.act 12 (lk [(13, true)] (.actd 14 .fin)) .non)) T.mixed ?_
    simp (disch := omega) only [go_sem, ↓cw_block, dsB_of, r0, r1, r4, rd, IntWalk.u32_in, IntWalk.u32_quo, IntWalk.u8_in, IntWalk.rem_in, hs, Int.reduceSub, Int.reduceToNat, Nat.reduceAdd, Int.reduceLE, Int.reduceLT, decide_true, decide_false, w0, w1, w2, w3]
    exact fin (e _ _ _ _ (by first | exact v_lo (k := m % 100) (by omega) (by omega) (by omega)) (by first | exact v_hi (k := m % 100) (by omega) (by omega) (by omega)) (by first | exact v_lo (k := m / 100 % 100) (by omega) (by omega) (by omega)) (by first | exact v_hi (k := m / 100 % 100) (by omega) (by omega) (by omega)))
  by_cases c5 : m < 100000
  · have k1 : ¬ m < 10 := by omega
    have k2 : ¬ m < 100 := by omega
    have k3 : ¬ m < 1000 := by omega
    have k4 : ¬ m < 10000 := by omega
    simp only [if_neg k1, if_neg k2, if_neg k3, if_neg k4, if_pos c5] at *
    have cc : ((5 : Nat) : Int) = 5 := rfl
    rw [cc] at r4
    have w0 : ∀ v0, wr H ⟨b, 5, none⟩ v0 = some (setH H ⟨b, 5, none⟩ v0) := fun v0 => hb.wr (by simp) v0
    have w1 : ∀ v0 v1, wr (setH H ⟨b, 5, none⟩ v0) ⟨b, 4, none⟩ v1 = some (setH (setH H ⟨b, 5, none⟩ v0) ⟨b, 4, none⟩ v1) := fun v0 v1 => (hb.set 5 v0).wr (by simp) v1
    have w2 : ∀ v0 v1 v2, wr (setH (setH H ⟨b, 5, none⟩ v0) ⟨b, 4, none⟩ v1) ⟨b, 3, none⟩ v2 = some (setH (setH (setH H ⟨b, 5, none⟩ v0) ⟨b, 4, none⟩ v1) ⟨b, 3, none⟩ v2) := fun v0 v1 v2 => ((hb.set 5 v0).set 4 v1).wr (by simp) v2
    have w3 : ∀ v0 v1 v2 v3, wr (setH (setH (setH H ⟨b, 5, none⟩ v0) ⟨b, 4, none⟩ v1) ⟨b, 3, none⟩ v2) ⟨b, 2, none⟩ v3 = some (setH (setH (setH (setH H ⟨b, 5, none⟩ v0) ⟨b, 4, none⟩ v1) ⟨b, 3, none⟩ v2) ⟨b, 2, none⟩ v3) := fun v0 v1 v2 v3 => (((hb.set 5 v0).set 4 v1).set 3 v2).wr (by simp) v3
    have w4 : ∀ v0 v1 v2 v3 v4, wr (setH (setH (setH (setH H ⟨b, 5, none⟩ v0) ⟨b, 4, none⟩ v1) ⟨b, 3, none⟩ v2) ⟨b, 2, none⟩ v3) ⟨b, 1, none⟩ v4 = some (setH (setH (setH (setH (setH H ⟨b, 5, none⟩ v0) ⟨b, 4, none⟩ v1) ⟨b, 3, none⟩ v2) ⟨b, 2, none⟩ v3) ⟨b, 1, none⟩ v4) := fun v0 v1 v2 v3 v4 => ((((hb.set 5 v0).set 4 v1).set 3 v2).set 2 v3).wr (by simp) v4
    have e : ∀ v0 v1 v2 v3 v4, v0 = u8v (dig1 (m % 10)) → v1 = u8v (dig1 (m / 10 % 10)) → v2 = u8v (dig1 (m / 100 % 10)) → v3 = u8v (dig1 (m / 1000 % 10)) → v4 = u8v (dig1 (m / 10000)) → Blk (setH (setH (setH (setH (setH H ⟨b, 5, none⟩ v0) ⟨b, 4, none⟩ v1) ⟨b, 3, none⟩ v2) ⟨b, 2, none⟩ v3) ⟨b, 1, none⟩ v4) b 125 ([c0] ++ ([dig1 (m / 10000), dig1 (m / 1000 % 10), dig1 (m / 100 % 10), dig1 (m / 10 % 10), dig1 (m % 10)]).map u8v ++ List.replicate (23 - 5) z8) ∧ Fr [b] H (setH (setH (setH (setH (setH H ⟨b, 5, none⟩ v0) ⟨b, 4, none⟩ v1) ⟨b, 3, none⟩ v2) ⟨b, 2, none⟩ v3) ⟨b, 1, none⟩ v4) := by
      rintro _ _ _ _ _ rfl rfl rfl rfl rfl
      exact ⟨(((((hb.set 5 _).set 4 _).set 3 _).set 2 _).set 1 _), ((((Fr.set (by simp)).trans (Fr.set (by simp))).trans (Fr.set (by simp))).trans (Fr.set (by simp))).trans (Fr.set (by simp))⟩
    simp (disch := omega) only [go_sem, ↓cw_block, dsB_of, r0, r1, r4, rd, IntWalk.u32_in, IntWalk.u32_quo, IntWalk.u8_in, IntWalk.rem_in, hs, Int.reduceSub, Int.reduceToNat, Nat.reduceAdd, Int.reduceLE, Int.reduceLT, decide_true, decide_false, w0, w1, w2, w3, w4]
    refine draw0 (lk [(0, true), (1, true), (2, true), (3, false), (4, false), (5, false), (6, true), (7, true), (8, true), (9, false), (10, false), (11, true)] (.act 12 (lk [(13, true)] (.actd 14 .fin)) .non)) T.mixed ?_
    simp (disch := omega) only [go_sem, ↓cw_block, dsB_of, r0, r1, r4, rd, IntWalk.u32_in, IntWalk.u32_quo, IntWalk.u8_in, IntWalk.rem_in, hs, Int.reduceSub, Int.reduceToNat, Nat.reduceAdd, Int.reduceLE, Int.reduceLT, decide_true, decide_false, w0, w1, w2, w3, w4]
    refine draw0 (lk [(0, true), (1, true), (2, true), (3, false), (4, false), (5, false), (6, true), (7, true), (8, true), (9, false), (10, false), (11, true)] (.act 12 (lk [(13, true)] (.actd 14 .fin)) .non)) T.mixed ?_
    simp (disch := omega) only [go_sem, ↓cw_block, dsB_of, r0, r1, r4, rd, IntWalk.u32_in, IntWalk.u32_quo, IntWalk.u8_in, IntWalk.rem_in, hs, Int.reduceSub, Int.reduceToNat, Nat.reduceAdd, Int.reduceLE, Int.reduceLT, decide_true, decide_false, w0, w1, w2, w3, w4]
    exact fin (e _ _ _ _ _ (by first | exact v_lo (k := m % 100) (by omega) (by omega) (by omega)) (by first | exact v_hi (k := m % 100) (by omega) (by omega) (by omega)) (by first | exact v_lo (k := m / 100 % 100) (by omega) (by omega) (by omega)) (by first | exact v_hi (k := m / 100 % 100) (by omega) (by omega) (by omega)) (d_one (by omega) (by omega)))
  have c6 : m < 1000000 := by omega
  have k1 : ¬ m < 10 := by omega
  have k2 : ¬ m < 100 := by omega
  have k3 : ¬ m < 1000 := by omega
  have k4 : ¬ m < 10000 := by omega
  have k5 : ¬ m < 100000 := by omega
  simp only [if_neg k1, if_neg k2, if_neg k3, if_neg k4, if_neg k5] at *
  have cc : ((6 : Nat) : Int) = 6 := rfl
  rw [cc] at r4
  have w0 : ∀ v0, wr H ⟨b, 6, none⟩ v0 = some (setH H ⟨b, 6, none⟩ v0) := fun v0 => hb.wr (by simp) v0
  have w1 : ∀ v0 v1, wr (setH H ⟨b, 6, none⟩ v0) ⟨b, 5, none⟩ v1 = some (setH (setH H ⟨b, 6, none⟩ v0) ⟨b, 5, none⟩ v1) := fun v0 v1 => (hb.set 6 v0).wr (by simp) v1
  have w2 : ∀ v0 v1 v2, wr (setH (setH H ⟨b, 6, none⟩ v0) ⟨b, 5, none⟩ v1) ⟨b, 4, none⟩ v2 = some (setH (setH (setH H ⟨b, 6, none⟩ v0) ⟨b, 5, none⟩ v1) ⟨b, 4, none⟩ v2) := fun v0 v1 v2 => ((hb.set 6 v0).set 5 v1).wr (by simp) v2
  have w3 : ∀ v0 v1 v2 v3, wr (setH (setH (setH H ⟨b, 6, none⟩ v0) ⟨b, 5, none⟩ v1) ⟨b, 4, none⟩ v2) ⟨b, 3, none⟩ v3 = some (setH (setH (setH (setH H ⟨b, 6, none⟩ v0) ⟨b, 5, none⟩ v1) ⟨b, 4, none⟩ v2) ⟨b, 3, none⟩ v3) := fun v0 v1 v2 v3 => (((hb.set 6 v0).set 5 v1).set 4 v2).wr (by simp) v3
  have w4 : ∀ v0 v1 v2 v3 v4, wr (setH (setH (setH (setH H ⟨b, 6, none⟩ v0) ⟨b, 5, none⟩ v1) ⟨b, 4, none⟩ v2) ⟨b, 3, none⟩ v3) ⟨b, 2, none⟩ v4 = some (setH (setH (setH (setH (setH H ⟨b, 6, none⟩ v0) ⟨b, 5, none⟩ v1) ⟨b, 4, none⟩ v2) ⟨b, 3, none⟩ v3) ⟨b, 2, none⟩ v4) := fun v0 v1 v2 v3 v4 => ((((hb.set 6 v0).set 5 v1).set 4 v2).set 3 v3).wr (by simp) v4
  have w5 : ∀ v0 v1 v2 v3 v4 v5, wr (setH (setH (setH (setH (setH H ⟨b, 6, none⟩ v0) ⟨b, 5, none⟩ v1) ⟨b, 4, none⟩ v2) ⟨b, 3, none⟩ v3) ⟨b, 2, none⟩ v4) ⟨b, 1, none⟩ v5 = some (setH (setH (setH (setH (setH (setH H ⟨b, 6, none⟩ v0) ⟨b, 5, none⟩ v1) ⟨b, 4, none⟩ v2) ⟨b, 3, none⟩ v3) ⟨b, 2, none⟩ v4) ⟨b, 1, none⟩ v5) := fun v0 v1 v2 v3 v4 v5 => (((((hb.set 6 v0).set 5 v1).set 4 v2).set 3 v3).set 2 v4).wr (by simp) v5
  have e : ∀ v0 v1 v2 v3 v4 v5, v0 = u8v (dig1 (m % 10)) → v1 = u8v (dig1 (m / 10 % 10)) → v2 = u8v (dig1 (m / 100 % 10)) → v3 = u8v (dig1 (m / 1000 % 10)) → v4 = u8v (dig1 (m / 10000 % 10)) → v5 = u8v (dig1 (m / 100000)) → Blk (setH (setH (setH (setH (setH (setH H ⟨b, 6, none⟩ v0) ⟨b, 5, none⟩ v1) ⟨b, 4, none⟩ v2) ⟨b, 3, none⟩ v3) ⟨b, 2, none⟩ v4) ⟨b, 1, none⟩ v5) b 125 ([c0] ++ ([dig1 (m / 100000), dig1 (m / 10000 % 10), dig1 (m / 1000 % 10), dig1 (m / 100 % 10), dig1 (m / 10 % 10), dig1 (m % 10)]).map u8v ++ List.replicate (23 - 6) z8) ∧ Fr [b] H (setH (setH (setH (setH (setH (setH H ⟨b, 6, none⟩ v0) ⟨b, 5, none⟩ v1) ⟨b, 4, none⟩ v2) ⟨b, 3, none⟩ v3) ⟨b, 2, none⟩ v4) ⟨b, 1, none⟩ v5) := by
    rintro _ _ _ _ _ _ rfl rfl rfl rfl rfl rfl
    exact ⟨((((((hb.set 6 _).set 5 _).set 4 _).set 3 _).set 2 _).set 1 _), (((((Fr.set (by simp)).trans (Fr.set (by simp))).trans (Fr.set (by simp))).trans (Fr.set (by simp))).trans (Fr.set (by simp))).trans (Fr.set (by simp))⟩
  simp (disch := omega) only [go_sem, ↓cw_block, dsB_of, r0, r1, r4, rd, IntWalk.u32_in, IntWalk.u32_quo, IntWalk.u8_in, IntWalk.rem_in, hs, Int.reduceSub, Int.reduceToNat, Nat.reduceAdd, Int.reduceLE, Int.reduceLT, decide_true, decide_false, w0, w1, w2, w3, w4, w5]
  refine draw0 (lk [(0, true), (1, true), (2, true), (3, false), (4, false), (5, false), (6, true), (7, true), (8, true), (9, false), (10, false), (11, true)] (.act 12 (lk [(13, true)] (.actd 14 .fin)) .non)) T.mixed ?_
  simp (disch := omega) only [go_sem, ↓cw_block, dsB_of, r0, r1, r4, rd, IntWalk.u32_in, IntWalk.u32_quo, IntWalk.u8_in, IntWalk.rem_in, hs, Int.reduceSub, Int.reduceToNat, Nat.reduceAdd, Int.reduceLE, Int.reduceLT, decide_true, decide_false, w0, w1, w2, w3, w4, w5]
  refine draw0 (lk [(0, true), (1, true), (2, true), (3, false), (4, false), (5, false), (6, true), (7, true), (8, true), (9, false), (10, false), (11, true)] (.act 12 (lk [(13, true)] (.actd 14 .fin)) .non)) T.mixed ?_
  simp (disch := omega) only [go_sem, ↓cw_block, dsB_of, r0, r1, r4, rd, IntWalk.u32_in, IntWalk.u32_quo, IntWalk.u8_in, IntWalk.rem_in, hs, Int.reduceSub, Int.reduceToNat, Nat.reduceAdd, Int.reduceLE, Int.reduceLT, decide_true, decide_false, w0, w1, w2, w3, w4, w5]
  refine draw0 (lk [(0, true), (1, true), (2, true), (3, false), (4, false), (5, false), (6, true), (7, true), (8, true), (9, false), (10, false), (11, true)] (.act 12 (lk [(13, true)] (.actd 14 .fin)) .non)) T.mixed ?_
  simp (disch := omega) only [go_sem, ↓cw_block, dsB_of, r0, r1, r4, rd, IntWalk.u32_in, IntWalk.u32_quo, IntWalk.u8_in, IntWalk.rem_in, hs, Int.reduceSub, Int.reduceToNat, Nat.reduceAdd, Int.reduceLE, Int.reduceLT, decide_true, decide_false, w0, w1, w2, w3, w4, w5]
  exact fin (e _ _ _ _ _ _ (by first | exact v_lo (k := m % 100) (by omega) (by omega) (by omega)) (by first | exact v_hi (k := m % 100) (by omega) (by omega) (by omega)) (by first | exact v_lo (k := m / 100 % 100) (by omega) (by omega) (by omega)) (by first | exact v_hi (k := m / 100 % 100) (by omega) (by omega) (by omega)) (by first | exact v_lo (k := m / 10000 % 100) (by omega) (by omega) (by omega)) (by first | exact v_hi (k := m / 10000 % 100) (by omega) (by omega) (by omega)))
end
end Go.Proofs.YtpkfgoemhcgpdaaGreatDoor

namespace Go.Proofs.YtpkfgoemhcgpdaaGreatDoor
open Go.HL
set_option maxRecDepth 10000
set_option linter.unusedSimpArgs false
set_option linter.unusedVariables false

section
variable {H H' : Heap}
theorem GT.grow (g : GT H) (hf : Fr [] H H') : GT H' :=
  ⟨fun i hi => hf.cell' (g.pw i hi) (by simp)⟩
theorem nDig_len {m : Nat} (h : m ≤ 999999) : (digF 7 m).length = nDig m := by
  rw [digF_c h]
  unfold nDig
  (repeat' split) <;> rfl
theorem sl_a {b d : Nat} (h : d ≤ 22) : sliceV Tryz.prog 125 (.pointer (some ⟨b, 0, none⟩)) (some (iv 1)) (some (iv ((1 + d : Nat) : Int))) none = some (.slice (some ⟨b, 1, none⟩) d 23) := by
  have e : arrS Tryz.prog 125 = some (24, 1) := by kernel_rfl
  simp only [sliceV, e, Option.bind_some, boundsV, chk]
  rw [if_pos (by omega), Option.bind_some, if_pos (by omega)]
  simp only [Option.map_some]
  have e1 : ((1 + d : Nat) : Int).toNat - (1 : Int).toNat = d := by omega
  rw [e1]
  rfl
theorem sl_b {b d : Nat} (h : d ≤ 22) : sliceV Tryz.prog 125 (.pointer (some ⟨b, 0, none⟩)) none (some (iv ((1 + d : Nat) : Int))) none = some (.slice (some ⟨b, 0, none⟩) (1 + d) 24) := by
  have e : arrS Tryz.prog 125 = some (24, 1) := by kernel_rfl
  simp only [sliceV, e, Option.bind_some, boundsV, chk]
  rw [if_pos (by omega), Option.bind_some]
  simp only [Option.map_some]
  have e1 : ((1 + d : Nat) : Int).toNat - 0 = 1 + d := by omega
  rw [e1]
  rfl
theorem isFormatInt_spec (g : GT H) {n : Int} (hn : -999999 ≤ n ∧ n ≤ 999999) : CallF Tryz.prog 52 [iv n, iv 10] H (fun r H' => Fr [] H H' ∧ r = sv (digI n)) NoP := by
  by_cases h0 : 0 ≤ n
  · obtain ⟨m, rfl⟩ : ∃ m : Nat, n = m := ⟨n.toNat, by omega⟩
    have e0 : digI (m : Int) = digF 7 m := by unfold digI; rw [if_neg (by omega)]; rfl
    rw [e0]
    by_cases h1 : m < 100
    · refine callF_of Tryz.func52 rfl Tryz.ntmps52 Tryz.results52 (by decide) rfl ?_
      simp (disch := omega) only [go_sem, ↓cw_block, dsB_of]
      refine call_to (isSmall_spec h1) ?_
      rintro _ _ ⟨rfl, rfl⟩
      simp (disch := omega) only [go_sem, ↓cw_block, dsB_of]
      exact fin ⟨Fr.refl _ _, rfl⟩
    · obtain ⟨G, hG⟩ : ∃ G, G = H.push (.cells #[.int .u8 0, .int .u8 0, .int .u8 0, .int .u8 0, .int .u8 0, .int .u8 0, .int .u8 0, .int .u8 0, .int .u8 0, .int .u8 0, .int .u8 0, .int .u8 0, .int .u8 0, .int .u8 0, .int .u8 0, .int .u8 0, .int .u8 0, .int .u8 0, .int .u8 0, .int .u8 0, .int .u8 0, .int .u8 0, .int .u8 0, .int .u8 0] 125) := ⟨_, rfl⟩
      have f1 : Fr [] H G := by rw [hG]; exact Fr.push
      have hb : Blk G H.size 125 (z8 :: List.replicate 23 z8) := by rw [hG]; exact Blk.new rfl
      have hd := nDig_len (m := m) (by omega)
      have hd6 : 1 ≤ nDig m ∧ nDig m ≤ 6 := by unfold nDig; (repeat' split) <;> omega
      have ed : (1 : Int) + nDig m = ((1 + nDig m : Nat) : Int) := by omega
      have es : 1 + nDig m - 1 = nDig m := by omega
      refine callF_of Tryz.func52 rfl Tryz.ntmps52 Tryz.results52 (by decide) rfl ?_
      simp (disch := omega) only [go_sem, ↓cw_block, dsB_of, IntWalk.u64_in]
      rw [← hG]
      refine call_to (isNumDigits_spec (g.grow f1) (by omega) (by omega)) ?_
      rintro _ _ ⟨rfl, rfl⟩
      have sa := sl_a (b := H.size) (d := nDig m) (by omega)
      simp (disch := omega) only [go_sem, ↓cw_block, dsB_of, ed, es, sa]
      refine call_to (isBase10_spec (m := m) (by omega) (by omega) hb) ?_
      intro v H2 hv
      refine Hush.out ?_
      obtain ⟨g1, g2⟩ := hv
      have cb := conv_bytes (P := Tryz.prog) (s := 96) (d := 9) (e := 5) (c := 23) rfl rfl rfl g1
      rw [hd] at cb
      refine ⟨?_⟩
      have cb' : convV Tryz.prog (full H2) 96 9 (.slice (some ⟨H.size, 1, none⟩) (nDig m) 23) = some (sv (digF 7 m)) := cb
      simp (disch := omega) only [go_sem, ↓cw_block, dsB_of, ed, es, sa, cb']
      exact fin ⟨fr_new f1 g2 (by simp), rfl⟩
  · obtain ⟨m, rfl⟩ : ∃ m : Nat, n = -(m : Int) := ⟨(-n).toNat, by omega⟩
    have e0 : digI (-(m : Int)) = 45 :: digF 7 m := by
      unfold digI
      rw [if_pos (by omega)]
      congr 2
      omega
    rw [e0]
    obtain ⟨G, hG⟩ : ∃ G, G = H.push (.cells #[.int .u8 0, .int .u8 0, .int .u8 0, .int .u8 0, .int .u8 0, .int .u8 0, .int .u8 0, .int .u8 0, .int .u8 0, .int .u8 0, .int .u8 0, .int .u8 0, .int .u8 0, .int .u8 0, .int .u8 0, .int .u8 0, .int .u8 0, .int .u8 0, .int .u8 0, .int .u8 0, .int .u8 0, .int .u8 0, .int .u8 0, .int .u8 0] 125) := ⟨_, rfl⟩
    have f1 : Fr [] H G := by rw [hG]; exact Fr.push
    have hb : Blk G H.size 125 (z8 :: List.replicate 23 z8) := by rw [hG]; exact Blk.new rfl
    have hd := nDig_len (m := m) (by omega)
    have hd6 : 1 ≤ nDig m ∧ nDig m ≤ 6 := by unfold nDig; (repeat' split) <;> omega
    have ed : (1 : Int) + nDig m = ((1 + nDig m : Nat) : Int) := by omega
    have es : 1 + nDig m - 1 = nDig m := by omega
    have ew : IntKind.u64.wrap (-(IntKind.u64.wrap (-(m : Int)))) = m := by
      unfold IntKind.wrap IntKind.bits IntKind.signed
      simp
      omega
    refine callF_of Tryz.func52 rfl Tryz.ntmps52 Tryz.results52 (by decide) rfl ?_
    simp (disch := omega) only [go_sem, ↓cw_block, dsB_of, ew]
    rw [← hG]
    refine call_to (isNumDigits_spec (g.grow f1) (by omega) (by omega)) ?_
    rintro _ _ ⟨rfl, rfl⟩
    have sa := sl_a (b := H.size) (d := nDig m) (by omega)
    have sb := sl_b (b := H.size) (d := nDig m) (by omega)
    simp (disch := omega) only [go_sem, ↓cw_block, dsB_of, ed, es, sa]
    refine call_to (isBase10_spec (m := m) (by omega) (by omega) hb) ?_
    intro v H2 hv
    refine Hush.out ?_
    obtain ⟨g1, g2⟩ := hv
    have w0 := g1.wr (i := 0) (by simp) (.int .u8 45)
    have g3 := g1.set 0 (.int .u8 45)
    have g4 : Blk (setH H2 ⟨H.size, 0, none⟩ (.int .u8 45)) H.size 125 ([] ++ (45 :: digF 7 m).map u8v ++ List.replicate (23 - nDig m) z8) := g3
    have cb := conv_bytes (P := Tryz.prog) (s := 96) (d := 9) (e := 5) (c := 24) rfl rfl rfl g4
    rw [List.length_cons, hd] at cb
    have e1 : nDig m + 1 = 1 + nDig m := by omega
    rw [e1] at cb
    refine ⟨?_⟩
    have cb' : convV Tryz.prog (full (setH H2 ⟨H.size, 0, none⟩ (.int .u8 45))) 96 9 (.slice (some ⟨H.size, 0, none⟩) (1 + nDig m) 24) = some (sv (45 :: digF 7 m)) := cb
    simp (disch := omega) only [go_sem, ↓cw_block, dsB_of, ed, es, w0, sb, cb']
    exact fin ⟨fr_new f1 (g2.trans (Fr.set (by simp))) (by simp), rfl⟩
theorem isItoa_spec (g : GT H) {n : Int} (hn : -999999 ≤ n ∧ n ≤ 999999) : CallF Tryz.prog 33 [iv n] H (fun r H' => Fr [] H H' ∧ r = sv (digI n)) NoP := by
  refine callF_of Tryz.func33 rfl Tryz.ntmps33 Tryz.results33 (by decide) rfl ?_
  simp (disch := omega) only [go_sem, ↓cw_block, dsB_of]
  refine call_to (isFormatInt_spec g hn) ?_
  rintro _ H1 ⟨f1, rfl⟩
  simp (disch := omega) only [go_sem, ↓cw_block, dsB_of]
  exact fin ⟨f1, rfl⟩
theorem scItoa_spec (g : GT H) {n : Int} (hn : -999999 ≤ n ∧ n ≤ 999999) : CallF Tryz.prog 20 [iv n] H (fun r H' => Fr [] H H' ∧ r = sv (digI n)) NoP := by
  refine callF_of Tryz.func20 rfl Tryz.ntmps20 Tryz.results20 (by decide) rfl ?_
  simp (disch := omega) only [go_sem, ↓cw_block, dsB_of]
  refine call_to (isItoa_spec g hn) ?_
  rintro _ H1 ⟨f1, rfl⟩
  simp (disch := omega) only [go_sem, ↓cw_block, dsB_of]
  exact fin ⟨f1, rfl⟩
end
end Go.Proofs.YtpkfgoemhcgpdaaGreatDoor

