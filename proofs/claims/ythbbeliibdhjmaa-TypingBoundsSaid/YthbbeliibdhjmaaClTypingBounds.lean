/- Proved: for every input the law TypingBounds returns true, and its arguments read as they did. No condition. -/
import Derived.Test.YthbbeliibdhjmaaMXA
import Derived.Test.YthbbeliibdhjmaaMX6
import Derived.Test.YthbbeliibdhjmaaMX3
import Derived.Test.YthbbeliibdhjmaaMX7
/- The laws on numbers: what is read and checked, worked out. -/
namespace Go.Proofs.Ythbbeliibdhjmaa
open Go.HL
set_option maxRecDepth 10000
set_option linter.unusedSimpArgs false
set_option linter.unusedVariables false

def szN (n : Nd) : Bool := decide (n.words.length ≤ 1000) && (decide (n.nums.length ≤ 1000) && (decide (n.kids.length ≤ 1000) && n.words.all fun w => decide (w.length ≤ 1000)))
def szB (l : List Nd) : Bool := decide (l.length ≤ 1000) && l.all szN
theorem sz_of {l : List Nd} (h : szB l = true) : Sz l := by
  unfold szB at h
  simp only [Bool.and_eq_true, decide_eq_true_eq, List.all_eq_true] at h
  have key : ∀ (i : Nat) n, l[i]? = some n → szN n = true := fun i n hi => h.2 n (List.mem_of_getElem? hi)
  have key' : ∀ (i : Nat) n, l[i]? = some n → n.words.length ≤ 1000 ∧ n.nums.length ≤ 1000 ∧ n.kids.length ≤ 1000 ∧ ∀ w ∈ n.words, w.length ≤ 1000 := by
    intro i n hi
    have := key i n hi
    unfold szN at this
    simpa only [Bool.and_eq_true, decide_eq_true_eq, List.all_eq_true] using this
  exact ⟨by omega, fun i n hi => by have := key' i n hi; omega, fun i n hi => by have := key' i n hi; omega, fun i n hi => by have := key' i n hi; omega, fun i n hi w hw => by have := (key' i n hi).2.2.2 w hw; omega⟩
/-- A text read: its fault, and what is wrong with its numbers. -/
def tpM (n : Nat) (s : Str) : Option (Flt × Flt × Bool) := (parseM n s).map fun r => (r.2, typM r.1, szB r.1)
theorem tp_open {n : Nat} {s : Str} {f g : Flt} (h : tpM n s = some (f, g, true)) : ∃ l, parseM n s = some (l, f) ∧ typM l = g ∧ Sz l := by
  unfold tpM at h
  rw [Option.map_eq_some_iff] at h
  obtain ⟨⟨l, f'⟩, h1, h2⟩ := h
  simp only [Prod.mk.injEq] at h2
  obtain ⟨rfl, h3, h4⟩ := h2
  exact ⟨l, h1, h3, sz_of h4⟩
theorem taw1 : tpM 60 [118, 97, 114, 32, 120, 32, 111, 102, 32, 57, 59] = some (⟨0, 0⟩, ⟨22, 0⟩, true) := by decide +kernel
theorem bin_iface_nil {P : Program} {H : Heap} {t : TypeId} {xo : Operand} {c : Value} {ms : Array (String × TypeId)} (hu : P.underlying t = some (.interface ms)) : binV P (full H) .eql t xo (.const c) .nilIface .nilIface = some (.bool true) := by
  show qrun P (do eqGuard .eql t xo (.const c) .nilIface .nilIface; binOp .eql t .nilIface .nilIface) H = _
  have g : qrun P (eqGuard .eql t xo (.const c) .nilIface .nilIface) H = some () := by
    unfold eqGuard
    cases xo <;> rfl
  rw [qrun_bind', g, Option.bind_some]
  show qrun P (do pure (Value.bool (← Op.equal t .nilIface .nilIface))) H = _
  have e : qrun P (Op.equal t .nilIface .nilIface) H = some true := by
    unfold Op.equal Op.maxDepth Op.equalIn
    rw [qrun_bind', qrun_underlying hu, Option.bind_some]
    rfl
  rw [qrun_bind', e]
  rfl
section
variable {H : Heap}
theorem tyLocate_spec {s : Str} {p : Int} : CallF Try.prog 37 [sv s, .agg #[iv 0, iv p]] H (fun r H' => Fr [] H H' ∧ r = .nilIface) NoP := by
  obtain ⟨A, hA⟩ : ∃ A, A = H.push (.cells #[iv 0, iv p] 27) := ⟨_, rfl⟩
  have f0 : Fr [] H A := by rw [hA]; exact Fr.push
  have bA : Blk A H.size 27 [iv 0, iv p] := by rw [hA]; exact Blk.new rfl
  have k0 := bA.cell 0
  simp only [List.getElem?_cons_zero] at k0
  refine callF_of Try.func37 rfl Try.ntmps37 Try.results37 (by decide) rfl ?_
  simp (disch := omega) only [go_sem, ↓cw_block, dsB_of]
  rw [← hA]
  try (simp (disch := omega) only [go_sem, ↓cw_block, dsB_of, k0])
  exact fin ⟨f0, rfl⟩
theorem w12awake_spec : CallF Try.prog 19 [] H (fun r H' => r = .bool true ∧ Fr [] H H') NoP := by
  obtain ⟨l1, p1, s1, z1⟩ := tp_open taw1
  refine callF_of Try.func19 rfl Try.ntmps19 Try.results19 (by decide) rfl ?_
  simp (disch := omega) only [go_sem, ↓cw_block, dsB_of]
  refine call_to (parse_spec p1) ?_
  intro r1 H1 hv
  refine Hush.out ?_
  obtain ⟨v1, rfl, f1, nl1⟩ := hv
  refine ⟨?_⟩
  simp (disch := omega) only [go_sem, ↓cw_block, dsB_of, fltV]
  refine call_to (tyCheck_spec (nl1.grow Fr.push) z1) ?_
  intro r3 H3 hv
  refine Hush.out ?_
  obtain ⟨f3, rfl⟩ := hv
  rw [s1]
  refine ⟨?_⟩
  simp (disch := omega) only [go_sem, ↓cw_block, dsB_of, fltV]
  refine call_to (tyLocate_spec (s := [])) ?_
  intro r4 H4 hv
  refine Hush.out ?_
  obtain ⟨f4, rfl⟩ := hv
  refine ⟨?_⟩
  have hbi := @bin_iface_nil Try.prog H4 76 (.tmp 15) .nilIface _ Try.underlying76
  simp (disch := omega) only [go_sem, ↓cw_block, dsB_of, hbi]
  exact fin ⟨rfl, ((((f1.trans Fr.push).trans f3).trans Fr.push).trans f4)⟩
end
end Go.Proofs.Ythbbeliibdhjmaa

/- A number's text (the document's Digits). -/
namespace Go.HL
/-- One byte as a text. -/
theorem conv_byte {P : Program} {H : Heap} {s d e b o c : Nat} {n : Int} (hs : P.underlying s = some (.slice e)) (he : P.underlying e = some (.int .u8)) (hd : P.underlying d = some .string) (hc : cellH H ⟨b, o, none⟩ = some (.int .u8 n)) :
    convV P (full H) s d (.slice (some ⟨b, o, none⟩) 1 c) = some (.string (bs [UInt8.ofNat n.toNat])) := by
  show qrun P (convert s d (.slice (some ⟨b, o, none⟩) 1 c)) H = _
  unfold convert
  rw [qrun_bind', qrun_underlying hs, Option.bind_some, qrun_bind', qrun_underlying hd, Option.bind_some]
  show qrun P (do match ← underlying e with
    | .int .u8 => Conv.bytesToString (.slice (some ⟨b, o, none⟩) 1 c)
    | .int .i32 => Conv.runesToString (.slice (some ⟨b, o, none⟩) 1 c)
    | _ => stuck "Convert: a slice of what to string?") H = _
  rw [qrun_bind', qrun_underlying he, Option.bind_some]
  show qrun P (Conv.bytesToString (.slice (some ⟨b, o, none⟩) 1 c)) H = _
  unfold Conv.bytesToString
  simp only [qrun_bind']
  have hl : qrun P (loadCells ⟨b, o, none⟩ 1) H = some #[.int .u8 n] := by
    unfold loadCells
    have := qrun_loadCellsFrom (P := P) (H := H) (a := ⟨b, o, none⟩) 1 0 #[] [.int .u8 n] (by simp [cellsH, Addr.add, hc])
    simpa using this
  rw [hl, Option.bind_some]
  rfl
end Go.HL
namespace Go.Proofs.Ythbbeliibdhjmaa
open Go.HL
set_option maxRecDepth 10000
set_option linter.unusedSimpArgs false
set_option linter.unusedVariables false

def dig1 (n : Nat) : UInt8 := UInt8.ofNat (48 + n)
def digF : Nat → Nat → Str
  | 0, _ => []
  | f + 1, n => if n < 10 then [dig1 n] else digF f (n / 10) ++ [dig1 (n % 10)]
/-- A number's text. -/
def digI (n : Int) : Str := if n < 0 then 45 :: digF 7 (-n).toNat else digF 7 n.toNat
theorem digF_len : ∀ (f n : Nat), (digF f n).length ≤ f
  | 0, n => by simp [digF]
  | f + 1, n => by
    unfold digF
    split
    · simp
    · have := digF_len f (n / 10); simp; omega
theorem digF_len2 : ∀ (f n k : Nat), n < 10 ^ k → 1 ≤ k → (digF f n).length ≤ k
  | 0, n, k, _, _ => by simp [digF]
  | f + 1, n, k, h, hk => by
    unfold digF
    split
    · simp; omega
    · rename_i h10
      have h2 : 2 ≤ k := by
        rcases Nat.lt_or_ge 1 k with h | h
        · omega
        · have : k = 1 := by omega
          subst this; omega
      have hp : 10 ^ k = 10 ^ (k - 1) * 10 := by
        rw [← Nat.pow_succ]; congr 1; omega
      have := digF_len2 f (n / 10) (k - 1) (by omega) (by omega)
      simp; omega
theorem digF_pos {f n : Nat} : 0 < (digF (f + 1) n).length := by
  unfold digF
  split <;> simp
theorem dig1_toNat {n : Nat} (h : n < 10) : (dig1 n).toNat = 48 + n := by
  unfold dig1
  rw [UInt8.toNat_ofNat']
  omega
theorem digF_all : ∀ (f n : Nat), (digF f n).all digitM = true
  | 0, n => by simp [digF]
  | f + 1, n => by
    unfold digF
    split
    · rename_i h
      simp [digitM, dig1_toNat h]; omega
    · rw [List.all_append, digF_all f]
      have := dig1_toNat (n := n % 10) (by omega)
      simp [digitM, this]; omega
theorem digF_val : ∀ (f n : Nat), n < 10 ^ f → valM (digF f n) = n
  | 0, n, h => by
    have : n = 0 := by simpa using h
    subst this; rfl
  | f + 1, n, h => by
    unfold digF
    split
    · rename_i h10
      simp [valM, dig1_toNat h10]; omega
    · have ih := digF_val f (n / 10) (by rw [Nat.pow_succ] at h; omega)
      unfold valM at ih ⊢
      rw [List.foldl_append, ih]
      simp [dig1_toNat (n := n % 10) (by omega)]
      omega
section
variable {H : Heap}
theorem r1Digits_pos : ∀ (f : Nat) {H : Heap} {n : Nat}, n < 10 ^ (f + 1) → f ≤ 10 → CallF Try.prog 38 [iv n] H (fun r H' => r = sv (digF (f + 1) n) ∧ Fr [] H H') NoP := by
  have one : ∀ {H : Heap} {n : Nat}, n < 10 → CallF Try.prog 38 [iv n] H (fun r H' => r = sv [dig1 n] ∧ Fr [] H H') NoP := by
    intro H n hn
    have hwr : IntKind.u8.wrap (48 + (n : Int)) = 48 + (n : Int) := by simp [IntKind.wrap, IntKind.bits, IntKind.signed]; omega
    have hbt : (48 + (n : Int)).toNat = 48 + n := by omega
    have hcv : convV Try.prog (full (H.push (.cells #[.int .u8 (48 + (n : Int))] 5))) 41 9 (.slice (some ⟨H.size, 0, none⟩) 1 1) = some (.string (bs [dig1 n])) := by
      have := conv_byte (P := Try.prog) (H := H.push (.cells #[.int .u8 (48 + (n : Int))] 5)) (b := H.size) (o := 0) (c := 1) Try.underlying41 Try.underlying5 Try.underlying9 ((Blk.new rfl).cell 0)
      rw [hbt] at this
      exact this
    refine callF_of Try.func38 rfl Try.ntmps38 Try.results38 (by decide) rfl ?_
    simp (disch := omega) only [go_sem, ↓cw_block, dsB_of, hwr, hcv]
    exact fin ⟨rfl, Fr.push⟩
  intro f
  induction f with
  | zero =>
    intro H n hn _
    have h10 : n < 10 := by simpa using hn
    have e : digF (0 + 1) n = [dig1 n] := by unfold digF; rw [if_pos h10]
    rw [e]
    exact one h10
  | succ f IH =>
    intro H n hn hf
    by_cases h10 : n < 10
    · have e : digF (f + 1 + 1) n = [dig1 n] := by unfold digF; rw [if_pos h10]
      rw [e]
      exact one h10
    have e : digF (f + 1 + 1) n = digF (f + 1) (n / 10) ++ [dig1 (n % 10)] := by
      have : ∀ g, digF (g + 1) n = if n < 10 then [dig1 n] else digF g (n / 10) ++ [dig1 (n % 10)] := fun _ => rfl
      rw [this, if_neg h10]
    rw [e]
    have hp : (10 : Nat) ^ (f + 1 + 1) ≤ 10 ^ 11 := Nat.pow_le_pow_right (by omega) (by omega)
    have hd : (n : Int).tdiv 10 = ((n / 10 : Nat) : Int) := by
      rw [Int.tdiv_eq_ediv_of_nonneg (by omega)]; omega
    have hm : (n : Int).tmod 10 = ((n % 10 : Nat) : Int) := by
      rw [Int.tmod_eq_emod_of_nonneg (by omega)]; omega
    have hle := digF_len (f + 1) (n / 10)
    have hn1 : n / 10 < 10 ^ (f + 1) := by rw [Nat.pow_succ] at hn; omega
    refine callF_of Try.func38 rfl Try.ntmps38 Try.results38 (by decide) rfl ?_
    simp (disch := omega) only [go_sem, ↓cw_block, dsB_of, hd]
    refine call_to (IH hn1 (by omega)) ?_
    intro r1 H1 hv
    refine Hush.out ?_
    obtain ⟨rfl, f1⟩ := hv
    refine ⟨?_⟩
    simp (disch := omega) only [go_sem, ↓cw_block, dsB_of, hm]
    refine call_to (one (by omega)) ?_
    intro r2 H2 hv
    refine Hush.out ?_
    obtain ⟨rfl, f2⟩ := hv
    have hl1 : ([dig1 (n % 10)] : Str).length = 1 := rfl
    refine ⟨?_⟩
    simp (disch := omega) only [go_sem, ↓cw_block, dsB_of, hl1]
    exact fin ⟨rfl, f1.trans f2⟩
theorem r1Digits_spec {n : Int} (h : -999999 ≤ n ∧ n ≤ 999999) : CallF Try.prog 38 [iv n] H (fun r H' => r = sv (digI n) ∧ Fr [] H H') NoP := by
  unfold digI
  by_cases h0 : n < 0
  · rw [if_pos h0]
    obtain ⟨m, hm⟩ : ∃ m : Nat, -n = m := ⟨(-n).toNat, by omega⟩
    have hmt : (-n).toNat = m := by omega
    rw [hmt]
    have hle := digF_len 7 m
    have hl1 : ([45] : Str).length = 1 := rfl
    refine callF_of Try.func38 rfl Try.ntmps38 Try.results38 (by decide) rfl ?_
    simp (disch := omega) only [go_sem, ↓cw_block, dsB_of, hm]
    refine call_to (r1Digits_pos 6 (by omega) (by omega)) ?_
    intro r1 H1 hv
    refine Hush.out ?_
    obtain ⟨rfl, f1⟩ := hv
    refine ⟨?_⟩
    simp (disch := omega) only [go_sem, ↓cw_block, dsB_of, hl1]
    exact fin ⟨rfl, f1⟩
  · rw [if_neg h0]
    obtain ⟨m, rfl⟩ : ∃ m : Nat, n = m := ⟨n.toNat, by omega⟩
    simp only [Int.toNat_natCast]
    exact r1Digits_pos 6 (by omega) (by omega)
theorem w12num_spec {n : Int} (h : -999999 ≤ n ∧ n ≤ 999999) : CallF Try.prog 20 [iv n] H (fun r H' => r = sv (digI n) ∧ Fr [] H H') NoP := by
  refine callF_of Try.func20 rfl Try.ntmps20 Try.results20 (by decide) rfl ?_
  simp (disch := omega) only [go_sem, ↓cw_block, dsB_of]
  refine call_to (r1Digits_spec h) ?_
  intro r1 H1 hv
  refine Hush.out ?_
  obtain ⟨rfl, f1⟩ := hv
  refine ⟨?_⟩
  simp (disch := omega) only [go_sem, ↓cw_block, dsB_of]
  exact fin ⟨rfl, f1⟩
end
end Go.Proofs.Ythbbeliibdhjmaa

/- The tokens of a text that is put together of pieces. -/
namespace Go.Proofs.Ythbbeliibdhjmaa
open Go.HL
set_option maxRecDepth 10000
set_option linter.unusedSimpArgs false
set_option linter.unusedVariables false

/-- A piece of a text: a blank, a word, a number, a sign. -/
inductive Pc where
  | sp (c : UInt8) | wd (w : Str) | nm (w : Str) | sg (w : Str)
def Pc.txt : Pc → Str
  | .sp c => [c]
  | .wd w => w
  | .nm w => w
  | .sg w => w
def Pc.ok : Pc → Bool
  | .sp c => blankS.any (· == c)
  | .wd w => decide (w.length ≠ 0) && (letterM (bt8 w 0) && w.all wordM)
  | .nm w => decide (w.length ≠ 0) && (decide (w.length ≤ 6) && w.all digitM)
  | .sg w => decide (w = [61, 61] ∨ w = [38, 38] ∨ w = [124, 124]) || (decide (w.length = 1) && signS.any (· == bt8 w 0))
/-- May this stand behind the piece? -/
def Pc.sep (p : Pc) (x : Str) : Bool := match p with
  | .sp _ => true
  | .wd _ => decide (x.length = 0) || !wordM (bt8 x 0)
  | .nm _ => decide (x.length = 0) || !digitM (bt8 x 0)
  | .sg w => decide (w.length = 2) || (decide (x.length = 0) || !(bt8 w 0 == bt8 x 0 && (bt8 w 0 == 61 || bt8 w 0 == 47)))
def pcS : List Pc → Str
  | [] => []
  | p :: r => p.txt ++ pcS r
def pcOk : List Pc → Bool
  | [] => true
  | p :: r => p.ok && (p.sep (pcS r) && pcOk r)
def pcT : Nat → List Pc → List Tok
  | i, [] => [⟨3, [], i⟩]
  | i, .sp c :: r => pcT (i + 1) r
  | i, .wd w :: r => ⟨0, w, i⟩ :: pcT (i + w.length) r
  | i, .nm w :: r => ⟨1, w, i⟩ :: pcT (i + w.length) r
  | i, .sg w :: r => ⟨2, w, i⟩ :: pcT (i + w.length) r
section
variable {pre x : Str}
theorem bt8_pre (h : 0 < x.length) : bt8 (pre ++ x) pre.length = bt8 x 0 := by
  unfold bt8
  rw [List.getD_eq_getElem?_getD, List.getD_eq_getElem?_getD, List.getElem?_append_right (by omega), Nat.sub_self]
theorem take_pre {k : Nat} : ((pre ++ x).take (pre.length + k)).drop pre.length = x.take k := by
  rw [List.take_append]
  simp
theorem two_pre : twoM (pre ++ x) pre.length = twoM x 0 := by
  unfold twoM
  rw [take_pre]
  simp
theorem span_pre {p : UInt8 → Bool} : spanM p (pre ++ x) pre.length = pre.length + spanM p x 0 := by
  unfold spanM
  simp
theorem tokEnd_pre (h : 0 < x.length) : tokEnd (pre ++ x) pre.length = (pre.length + (tokEnd x 0).1, (tokEnd x 0).2) := by
  unfold tokEnd
  rw [two_pre, bt8_pre h, span_pre, span_pre]
  repeat' split
  all_goals simp
theorem tok_step {n : Nat} {out : List Tok} {k : Nat} {kind : Int} (h : 0 < x.length) (hb : (blankS.any (· == bt8 x 0)) = false) (h2 : twoM x 0 ≠ [47, 47]) (he : tokEnd x 0 = (k, kind)) (hk : 0 < k) (h6 : kind = 1 → k ≤ 6) :
    tokM (pre ++ x) (n + 1) pre.length out = tokM (pre ++ x) n (pre.length + k) (out ++ [⟨kind, x.take k, pre.length⟩]) := by
  have hl : pre.length < (pre ++ x).length := by rw [List.length_append]; omega
  conv => lhs; unfold tokM
  rw [if_pos hl, bt8_pre h, hb, two_pre, if_neg (by simp), if_neg h2, tokEnd_pre h, he]
  simp only
  rw [if_neg (by omega), take_pre]
end
theorem take_while_all {p : UInt8 → Bool} {w post : Str} (hw : w.all p = true) (hp : post.length = 0 ∨ p (bt8 post 0) = false) : (w ++ post).takeWhile p = w := by
  rw [List.takeWhile_append_of_pos (by simpa using hw)]
  cases post with
  | nil => simp
  | cons c r =>
    rcases hp with h | h
    · simp at h
    · have : p c = false := h
      rw [List.takeWhile_cons_of_neg (by simp [this])]; simp
theorem two_head {x l : Str} (h : twoM x 0 = l) (hl : l ≠ []) : bt8 l 0 = bt8 x 0 := by
  unfold twoM at h
  split at h
  · subst h
    match x with
    | [] => simp at *
    | [a] => simp at *
    | a :: b :: r => rfl
  · exact absurd h.symm hl
theorem letter_not {c : UInt8} (h : letterM c = true) : (blankS.any (· == c)) = false ∧ c ≠ 61 ∧ c ≠ 38 ∧ c ≠ 124 ∧ c ≠ 47 ∧ digitM c = false := by
  unfold letterM at h
  rw [decide_eq_true_eq] at h
  have hn : ∀ k : UInt8, ¬ (65 ≤ k.toNat ∧ k.toNat ≤ 90 ∨ 97 ≤ k.toNat ∧ k.toNat ≤ 122) → c ≠ k := by
    rintro k hk rfl; exact hk h
  refine ⟨?_, hn 61 (by decide), hn 38 (by decide), hn 124 (by decide), hn 47 (by decide), ?_⟩
  · rw [List.any_eq_false]
    intro k hk
    have : c ≠ k := by
      simp [blankS] at hk
      rcases hk with rfl | rfl | rfl | rfl
      · exact hn 32 (by decide)
      · exact hn 9 (by decide)
      · exact hn 13 (by decide)
      · exact hn 10 (by decide)
    simp [Ne.symm this]
  · unfold digitM
    rw [decide_eq_false_iff_not]
    omega
theorem digit_not {c : UInt8} (h : digitM c = true) : (blankS.any (· == c)) = false ∧ c ≠ 61 ∧ c ≠ 38 ∧ c ≠ 124 ∧ c ≠ 47 ∧ letterM c = false := by
  unfold digitM at h
  rw [decide_eq_true_eq] at h
  have hn : ∀ k : UInt8, ¬ (48 ≤ k.toNat ∧ k.toNat ≤ 57) → c ≠ k := by
    rintro k hk rfl; exact hk h
  refine ⟨?_, hn 61 (by decide), hn 38 (by decide), hn 124 (by decide), hn 47 (by decide), ?_⟩
  · rw [List.any_eq_false]
    intro k hk
    have : c ≠ k := by
      simp [blankS] at hk
      rcases hk with rfl | rfl | rfl | rfl
      · exact hn 32 (by decide)
      · exact hn 9 (by decide)
      · exact hn 13 (by decide)
      · exact hn 10 (by decide)
    simp [Ne.symm this]
  · unfold letterM
    rw [decide_eq_false_iff_not]
    omega
theorem bt8_app {w x : Str} (h : 0 < w.length) : bt8 (w ++ x) 0 = bt8 w 0 := by
  unfold bt8
  rw [List.getD_eq_getElem?_getD, List.getD_eq_getElem?_getD, List.getElem?_append_left h]
theorem head_two {x : Str} (h61 : bt8 x 0 ≠ 61) (h38 : bt8 x 0 ≠ 38) (h124 : bt8 x 0 ≠ 124) : ¬ (twoM x 0 = [61, 61] ∨ twoM x 0 = [38, 38] ∨ twoM x 0 = [124, 124]) := by
  rintro (h | h | h)
  · exact h61 (two_head h (by simp)).symm
  · exact h38 (two_head h (by simp)).symm
  · exact h124 (two_head h (by simp)).symm
theorem head_47 {x : Str} (h : bt8 x 0 ≠ 47) : twoM x 0 ≠ [47, 47] := fun e => h (two_head e (by simp)).symm
theorem tok_pc {pre post : Str} {n : Nat} {out : List Tok} {p : Pc} (hok : p.ok = true) (hsep : p.sep post = true) :
    tokM (pre ++ (p.txt ++ post)) (n + 1) pre.length out = tokM (pre ++ (p.txt ++ post)) n (pre ++ p.txt).length (out ++ (match p with
      | .sp _ => []
      | .wd w => [⟨0, w, pre.length⟩]
      | .nm w => [⟨1, w, pre.length⟩]
      | .sg w => [⟨2, w, pre.length⟩])) := by
  cases p with
  | sp c =>
    simp only [Pc.ok] at hok
    simp only [Pc.txt]
    have hl : pre.length < (pre ++ ([c] ++ post)).length := by simp
    conv => lhs; unfold tokM
    rw [if_pos hl, bt8_pre (by simp)]
    have : bt8 ([c] ++ post) 0 = c := rfl
    rw [this, if_pos hok]
    simp
  | wd w =>
    simp only [Pc.ok, Bool.and_eq_true, decide_eq_true_eq] at hok
    simp only [Pc.txt]
    simp only [Pc.sep, Bool.or_eq_true, decide_eq_true_eq, Bool.not_eq_true'] at hsep
    obtain ⟨h0, h1, h2⟩ := hok
    have hw0 : 0 < w.length := by omega
    have hb : bt8 (w ++ post) 0 = bt8 w 0 := bt8_app hw0
    obtain ⟨l1, l2, l3, l4, l5, l6⟩ := letter_not h1
    rw [← hb] at l1 l2 l3 l4 l5 l6
    have he : tokEnd (w ++ post) 0 = (w.length, 0) := by
      unfold tokEnd
      rw [if_neg (head_two l2 l3 l4), hb, if_pos h1]
      unfold spanM
      rw [List.drop_zero, take_while_all h2 hsep]; simp
    rw [tok_step (by simp; omega) l1 (head_47 l5) he hw0 (by simp)]
    simp
  | nm w =>
    simp only [Pc.ok, Bool.and_eq_true, decide_eq_true_eq] at hok
    simp only [Pc.txt]
    simp only [Pc.sep, Bool.or_eq_true, decide_eq_true_eq, Bool.not_eq_true'] at hsep
    obtain ⟨h0, h6, h2⟩ := hok
    have hw0 : 0 < w.length := by omega
    have h1 : digitM (bt8 w 0) = true := by
      have := List.all_eq_true.1 h2 (bt8 w 0) (List.mem_of_getElem? (bt8_lt hw0))
      exact this
    have hb : bt8 (w ++ post) 0 = bt8 w 0 := bt8_app hw0
    obtain ⟨l1, l2, l3, l4, l5, l6⟩ := digit_not h1
    rw [← hb] at l1 l2 l3 l4 l5
    have he : tokEnd (w ++ post) 0 = (w.length, 1) := by
      unfold tokEnd
      rw [if_neg (head_two l2 l3 l4), hb, if_neg (by simp [l6]), if_pos h1]
      unfold spanM
      rw [List.drop_zero, take_while_all h2 hsep]; simp
    rw [tok_step (by simp; omega) l1 (head_47 l5) he hw0 (fun _ => h6)]
    simp
  | sg w =>
    simp only [Pc.ok, Bool.or_eq_true, Bool.and_eq_true, decide_eq_true_eq] at hok
    simp only [Pc.txt]
    rcases hok with h | ⟨h1, hs⟩
    · have two : ∀ a : UInt8, twoM ([a, a] ++ post) 0 = [a, a] := by intro a; unfold twoM; rw [if_pos (by simp)]; rfl
      rcases h with rfl | rfl | rfl
      · rw [tok_step (x := [61, 61] ++ post) (k := 2) (kind := 2) (by simp) (by rfl) (by rw [two]; decide) (by unfold tokEnd; rw [if_pos (.inl (two 61))]) (by omega) (by simp)]
        simp
      · rw [tok_step (x := [38, 38] ++ post) (k := 2) (kind := 2) (by simp) (by rfl) (by rw [two]; decide) (by unfold tokEnd; rw [if_pos (.inr (.inl (two 38)))]) (by omega) (by simp)]
        simp
      · rw [tok_step (x := [124, 124] ++ post) (k := 2) (kind := 2) (by simp) (by rfl) (by rw [two]; decide) (by unfold tokEnd; rw [if_pos (.inr (.inr (two 124)))]) (by omega) (by simp)]
        simp
    · match w, h1 with
      | [c], _ =>
        have hb : bt8 ([c] ++ post) 0 = c := rfl
        have hc : bt8 [c] 0 = c := rfl
        rw [hc] at hs
        simp only [Pc.sep, hc, Bool.or_eq_true, decide_eq_true_eq, Bool.not_eq_true', List.length_cons, List.length_nil] at hsep
        have hsg : ∀ k : UInt8, (signS.any (· == k)) = false → c ≠ k := by
          rintro k hk rfl; rw [hk] at hs; cases hs
        have hbl : (blankS.any (· == c)) = false := by
          rw [List.any_eq_false]
          intro k hk
          have : c ≠ k := by
            simp [blankS] at hk
            rcases hk with rfl | rfl | rfl | rfl
            · exact hsg 32 (by decide)
            · exact hsg 9 (by decide)
            · exact hsg 13 (by decide)
            · exact hsg 10 (by decide)
          simp [Ne.symm this]
        have hlet : letterM c = false ∧ digitM c = false := by
          have hall : ∀ k ∈ signS, letterM k = false ∧ digitM k = false := by decide
          obtain ⟨k, hk, e⟩ := List.any_eq_true.1 hs
          have : k = c := by simpa using e
          subst this
          exact hall k hk
        have hsame : ∀ a : UInt8, (a = 61 ∨ a = 47) → twoM ([c] ++ post) 0 ≠ [a, a] := by
          intro a ha e
          have h1 := two_head e (by simp)
          have ec : c = a := by rw [hb] at h1; exact h1.symm
          subst ec
          cases post with
          | nil => unfold twoM at e; simp at e
          | cons d r =>
            have ed : d = c := by
              unfold twoM at e
              rw [if_pos (by simp)] at e
              simpa using e
            subst ed
            have hd : bt8 (d :: r) 0 = d := rfl
            rw [hd] at hsep
            rcases hsep with h | h | h
            · omega
            · simp at h
            · rcases ha with rfl | rfl <;> simp at h
        have he : tokEnd ([c] ++ post) 0 = (1, 2) := by
          unfold tokEnd
          rw [if_neg, hb, if_neg (by simp [hlet.1]), if_neg (by simp [hlet.2]), if_pos hs]
          rintro (h | h | h)
          · exact hsame 61 (.inl rfl) h
          · have := two_head h (by simp); rw [hb] at this; exact hsg 38 (by decide) this.symm
          · have := two_head h (by simp); rw [hb] at this; exact hsg 124 (by decide) this.symm
        rw [tok_step (x := [c] ++ post) (k := 1) (kind := 2) (by simp) (by rw [hb]; exact hbl) (hsame 47 (.inr rfl)) he (by omega) (by simp)]
        simp
theorem tok_pcs : ∀ (ps : List Pc) (pre : Str) (n : Nat) (out : List Tok), pcOk ps = true → ps.length < n → tokM (pre ++ pcS ps) n pre.length out = some (out ++ pcT pre.length ps, ⟨0, 0⟩)
  | [], pre, n, out, _, hn => by
    obtain ⟨m, rfl⟩ : ∃ m, n = m + 1 := ⟨n - 1, by omega⟩
    unfold tokM
    simp [pcS, pcT]
  | p :: r, pre, n, out, hok, hn => by
    obtain ⟨m, rfl⟩ : ∃ m, n = m + 1 := ⟨n - 1, by omega⟩
    simp only [pcOk, Bool.and_eq_true] at hok
    obtain ⟨h1, h2, h3⟩ := hok
    have e : pcS (p :: r) = p.txt ++ pcS r := rfl
    rw [e, tok_pc h1 h2, ← List.append_assoc]
    simp only [List.length_cons] at hn
    rw [tok_pcs r (pre ++ p.txt) m _ h3 (by omega)]
    congr 2
    cases p <;> simp [pcT, Pc.txt]
/-- The tokens of a text in pieces. -/
theorem tokens_pcs {ps : List Pc} {n : Nat} (h : pcOk ps = true) (hn : ps.length < n) (hl : (pcS ps).length ≤ 4000) : tokensM n (pcS ps) = some (pcT 0 ps, ⟨0, 0⟩) := by
  unfold tokensM
  rw [if_neg (by omega)]
  have := tok_pcs ps [] n [] h hn
  simpa using this
end Go.Proofs.Ythbbeliibdhjmaa

/- The laws on numbers: bounds (trees with numbers that are not known). -/
namespace Go.Proofs.Ythbbeliibdhjmaa
open Go.HL
set_option maxRecDepth 10000
set_option linter.unusedSimpArgs false
set_option linter.unusedVariables false

def tr0 (x y : Int) : List Nd := [⟨0, [], [], [1], 0⟩, ⟨1, [[99]], [x, y, 0, 0], [], 0⟩]
def tr1 (x y : Int) : List Nd := [⟨0, [], [], [1], 0⟩, ⟨2, [[120]], [x, y], [], 0⟩]
def tr2 (x : Int) : List Nd := [⟨0, [], [], [1], 0⟩, ⟨3, [[112]], [x], [], 0⟩]
def tr3 (x : Int) : List Nd := [⟨0, [], [], [1], 0⟩, ⟨4, [], [], [2], 0⟩, ⟨17, [], [x], [], 5⟩]
theorem right_of {l : List Nd} (h0 : 0 < l.length) (h8 : l.length ≤ 800) (hk : (nodeAt l 0).kind = 0) (hw : walkM l 20 0 = (l.length, true)) (hn : ∀ j, j < l.length → nodeP l (nodeAt l j) = true) : prRightM l = true := by
  have ht : treeM l 20 0 = (l.length, true) := (tree_iff 20 0 l.length h0).2 ⟨hw, fun j _ hj => hn j hj⟩
  unfold nodeAt at hk
  unfold prRightM
  rw [ht, decide_eq_true h0, decide_eq_true h8, decide_eq_true hk]
  simp
theorem within1 {x y : Int} (hx : 0 ≤ x ∧ x ≤ 999999) (hy : 0 ≤ y ∧ y ≤ 999999) : withinM [x, y, 0, 0] (bnds 1) = true := by
  unfold withinM
  rw [Bool.and_eq_true, allR_iff]
  refine ⟨rfl, ?_⟩
  intro i hi
  have : i = 0 ∨ i = 1 ∨ i = 2 ∨ i = 3 := by simp [bnds] at hi; omega
  rcases this with rfl | rfl | rfl | rfl <;> simp [bnds] <;> omega
theorem within2 {x y : Int} (hx : 0 ≤ x ∧ x ≤ 999999) (hy : -999999 ≤ y ∧ y ≤ 999999) : withinM [x, y] (bnds 2) = true := by
  unfold withinM
  rw [Bool.and_eq_true, allR_iff]
  refine ⟨rfl, ?_⟩
  intro i hi
  have : i = 0 ∨ i = 1 := by simp [bnds] at hi; omega
  rcases this with rfl | rfl <;> simp [bnds] <;> omega
theorem within3 {x : Int} (hx : 0 ≤ x ∧ x ≤ 999999) : withinM [x] (bnds 3) = true := by
  unfold withinM
  rw [Bool.and_eq_true, allR_iff]
  refine ⟨rfl, ?_⟩
  intro i hi
  have : i = 0 := by simp [bnds] at hi; omega
  rcases this with rfl <;> simp [bnds] <;> omega
theorem within17 {x : Int} (hx : 0 ≤ x ∧ x ≤ 999999) : withinM [x] (bnds 17) = true := by
  unfold withinM
  rw [Bool.and_eq_true, allR_iff]
  refine ⟨rfl, ?_⟩
  intro i hi
  have : i = 0 := by simp [bnds] at hi; omega
  rcases this with rfl <;> simp [bnds] <;> omega
theorem right0 {x y : Int} (hx : 0 ≤ x ∧ x ≤ 999999) (hy : 0 ≤ y ∧ y ≤ 999999) : prRightM (tr0 x y) = true := by
  refine right_of (by simp [tr0]) (by simp [tr0]) rfl (by kernel_rfl) ?_
  intro j hj
  have : j = 0 ∨ j = 1 := by simp [tr0] at hj; omega
  rcases this with rfl | rfl
  · exact (by kernel_rfl : nodeP (tr0 x y) (nodeAt (tr0 x y) 0) = true)
  · show (wordsM ⟨1, [[99]], [x, y, 0, 0], [], 0⟩ 1 && (withinM [x, y, 0, 0] (bnds 1) && kidsM 1 [])) = true
    rw [within1 hx hy]; kernel_rfl
theorem right1 {x y : Int} (hx : 0 ≤ x ∧ x ≤ 999999) (hy : -999999 ≤ y ∧ y ≤ 999999) : prRightM (tr1 x y) = true := by
  refine right_of (by simp [tr1]) (by simp [tr1]) rfl (by kernel_rfl) ?_
  intro j hj
  have : j = 0 ∨ j = 1 := by simp [tr1] at hj; omega
  rcases this with rfl | rfl
  · exact (by kernel_rfl : nodeP (tr1 x y) (nodeAt (tr1 x y) 0) = true)
  · show (wordsM ⟨2, [[120]], [x, y], [], 0⟩ 1 && (withinM [x, y] (bnds 2) && kidsM 2 [])) = true
    rw [within2 hx hy]; kernel_rfl
theorem right2 {x : Int} (hx : 0 ≤ x ∧ x ≤ 999999) : prRightM (tr2 x) = true := by
  refine right_of (by simp [tr2]) (by simp [tr2]) rfl (by kernel_rfl) ?_
  intro j hj
  have : j = 0 ∨ j = 1 := by simp [tr2] at hj; omega
  rcases this with rfl | rfl
  · exact (by kernel_rfl : nodeP (tr2 x) (nodeAt (tr2 x) 0) = true)
  · show (wordsM ⟨3, [[112]], [x], [], 0⟩ 1 && (withinM [x] (bnds 3) && kidsM 3 [])) = true
    rw [within3 hx]; kernel_rfl
theorem right3 {x : Int} (hx : 0 ≤ x ∧ x ≤ 999999) : prRightM (tr3 x) = true := by
  refine right_of (by simp [tr3]) (by simp [tr3]) rfl (by kernel_rfl) ?_
  intro j hj
  have : j = 0 ∨ j = 1 ∨ j = 2 := by simp [tr3] at hj; omega
  rcases this with rfl | rfl | rfl
  · exact (by kernel_rfl : nodeP (tr3 x) (nodeAt (tr3 x) 0) = true)
  · exact (by kernel_rfl : nodeP (tr3 x) (nodeAt (tr3 x) 1) = true)
  · show (wordsM ⟨17, [], [x], [], 5⟩ 0 && (withinM [x] (bnds 17) && kidsM 17 [])) = true
    rw [within17 hx]; kernel_rfl
theorem sz_tr {l : List Nd} (h : l.length ≤ 10 ∧ ∀ n ∈ l, n.words.length ≤ 10 ∧ n.nums.length ≤ 10 ∧ n.kids.length ≤ 10 ∧ ∀ w ∈ n.words, w.length ≤ 10) : Sz l := by
  have key : ∀ (i : Nat) n, l[i]? = some n → n.words.length ≤ 10 ∧ n.nums.length ≤ 10 ∧ n.kids.length ≤ 10 ∧ ∀ w ∈ n.words, w.length ≤ 10 := fun i n hi => h.2 n (List.mem_of_getElem? hi)
  exact ⟨by omega, fun i n hi => by have := key i n hi; omega, fun i n hi => by have := key i n hi; omega, fun i n hi => by have := key i n hi; omega, fun i n hi w hw => by have := (key i n hi).2.2.2 w hw; omega⟩
theorem sz0 {x y : Int} : Sz (tr0 x y) := sz_tr ⟨by simp [tr0], by intro n hn; simp [tr0] at hn; rcases hn with rfl | rfl <;> simp⟩
theorem sz1 {x y : Int} : Sz (tr1 x y) := sz_tr ⟨by simp [tr1], by intro n hn; simp [tr1] at hn; rcases hn with rfl | rfl <;> simp⟩
theorem sz2 {x : Int} : Sz (tr2 x) := sz_tr ⟨by simp [tr2], by intro n hn; simp [tr2] at hn; rcases hn with rfl | rfl <;> simp⟩
theorem sz3 {x : Int} : Sz (tr3 x) := sz_tr ⟨by simp [tr3], by intro n hn; simp [tr3] at hn; rcases hn with rfl | rfl | rfl <;> simp⟩
/-- A tree of one item without kids. -/
theorem typ_one {l : List Nd} (hs : scopeM l = ⟨0, 0⟩) {n : Nd} {e : Int} {s : TS} (h0 : (nodeAt l 0).kind = 0) (hk : (nodeAt l 0).kids = [1]) (h1 : nodeAt l 1 = n) (hk1 : n.kids = []) (ho : oneT ⟨0, 0, 0⟩ n 1 false = (s, e)) :
    (e = 0 → typM l = ⟨0, 0⟩) ∧ (e ≠ 0 → typM l = ⟨e, n.pos⟩) := by
  have e0 : oneT ⟨0, 0, 0⟩ (nodeAt l 0) 1 false = (⟨0, 0, 0⟩, 0) := by
    unfold oneT; rw [h0]; rfl
  have eq : ∀ d i cp am s, nodeT l (d + 1) i cp am s = if (oneT s (nodeAt l i) cp am).2 = 0 then kidsT (nodeT l d) (nodeAt l i).kids (if (nodeAt l i).kind = 3 then n0 (nodeAt l i) else cp) (if (nodeAt l i).kind = 13 then true else am) (oneT s (nodeAt l i) cp am).1
      else ((oneT s (nodeAt l i) cp am).1, some ((oneT s (nodeAt l i) cp am).2, i)) := fun _ _ _ _ _ => rfl
  have hn : (nodeT l 20 0 1 false ⟨0, 0, 0⟩).2 = if e = 0 then none else some (e, 1) := by
    rw [eq 19, e0, if_pos rfl, hk, h0, if_neg (by omega), if_neg (by omega)]
    have e19 : nodeT l 19 1 1 false ⟨0, 0, 0⟩ = if e = 0 then (s, none) else (s, some (e, 1)) := by
      rw [eq 18, h1, ho, hk1]
      rfl
    simp only [kidsT, Int.toNat_one, e19]
    by_cases c : e = 0
    · simp [c]
    · simp [c]
  unfold typM
  rw [if_pos hs, hn]
  constructor
  · intro c; rw [if_pos c]; rfl
  · intro c; rw [if_neg c]; show (⟨e, (nodeAt l 1).pos⟩ : Flt) = _; rw [h1]
theorem ty0 {x y : Int} (hx : 0 ≤ x ∧ x ≤ 999999) (hy : 0 ≤ y ∧ y ≤ 999999) : typM (tr0 x y) = ⟨if (1 ≤ x ∧ x ≤ 3) ∧ (1 ≤ y ∧ y ≤ 8) then 0 else 22, 0⟩ := by
  have hs : scopeM (tr0 x y) = ⟨0, 0⟩ := by unfold scopeM; rw [if_pos (right0 hx hy)]; kernel_rfl
  have ho : oneT ⟨0, 0, 0⟩ ⟨1, [[99]], [x, y, 0, 0], [], 0⟩ 1 false = (⟨1, 0, 0⟩, if (1 ≤ x ∧ x ≤ 3) ∧ (1 ≤ y ∧ y ≤ 8) then 0 else 22) := by
    simp [oneT, n0, n1]
  have h := typ_one hs (n := ⟨1, [[99]], [x, y, 0, 0], [], 0⟩) rfl rfl rfl rfl ho
  by_cases c : (1 ≤ x ∧ x ≤ 3) ∧ (1 ≤ y ∧ y ≤ 8)
  · rw [if_pos c] at h ⊢; exact h.1 rfl
  · rw [if_neg c] at h ⊢; exact h.2 (by omega)
theorem ty1 {x y : Int} (hx : 0 ≤ x ∧ x ≤ 999999) (hy : -999999 ≤ y ∧ y ≤ 999999) : typM (tr1 x y) = ⟨if (1 ≤ x ∧ x ≤ 8) ∧ trimI y x = y then 0 else 22, 0⟩ := by
  have hs : scopeM (tr1 x y) = ⟨0, 0⟩ := by unfold scopeM; rw [if_pos (right1 hx hy)]; kernel_rfl
  have ho : oneT ⟨0, 0, 0⟩ ⟨2, [[120]], [x, y], [], 0⟩ 1 false = (⟨0, 0, 1⟩, if (1 ≤ x ∧ x ≤ 8) ∧ trimI y x = y then 0 else 22) := by
    simp [oneT, n0, n1]
  have h := typ_one hs (n := ⟨2, [[120]], [x, y], [], 0⟩) rfl rfl rfl rfl ho
  by_cases c : (1 ≤ x ∧ x ≤ 8) ∧ trimI y x = y
  · rw [if_pos c] at h ⊢; exact h.1 rfl
  · rw [if_neg c] at h ⊢; exact h.2 (by omega)
theorem ty2 {x : Int} (hx : 0 ≤ x ∧ x ≤ 999999) : typM (tr2 x) = ⟨if 1 ≤ x ∧ x ≤ 4 then 0 else 22, 0⟩ := by
  have hs : scopeM (tr2 x) = ⟨0, 0⟩ := by unfold scopeM; rw [if_pos (right2 hx)]; kernel_rfl
  have ho : oneT ⟨0, 0, 0⟩ ⟨3, [[112]], [x], [], 0⟩ 1 false = (⟨0, x, 0⟩, if 1 ≤ x ∧ x ≤ 4 then 0 else 22) := by
    simp [oneT, n0]
    by_cases c : x ≤ 4 <;> simp [c]
  have h := typ_one hs (n := ⟨3, [[112]], [x], [], 0⟩) rfl rfl rfl rfl ho
  by_cases c : 1 ≤ x ∧ x ≤ 4
  · rw [if_pos c] at h ⊢; exact h.1 rfl
  · rw [if_neg c] at h ⊢; exact h.2 (by omega)
theorem ty3 {x : Int} (hx : 0 ≤ x ∧ x ≤ 999999) : typM (tr3 x) = if x ≤ 127 then ⟨0, 0⟩ else ⟨22, 5⟩ := by
  have hs : scopeM (tr3 x) = ⟨0, 0⟩ := by unfold scopeM; rw [if_pos (right3 hx)]; kernel_rfl
  have ho : oneT ⟨0, 0, 0⟩ ⟨17, [], [x], [], 5⟩ 1 false = (⟨0, 0, 0⟩, if x ≤ 127 then 0 else 22) := by
    simp [oneT, n0, hx.1]
  have eq : ∀ d i cp am s, nodeT (tr3 x) (d + 1) i cp am s = if (oneT s (nodeAt (tr3 x) i) cp am).2 = 0 then kidsT (nodeT (tr3 x) d) (nodeAt (tr3 x) i).kids (if (nodeAt (tr3 x) i).kind = 3 then n0 (nodeAt (tr3 x) i) else cp) (if (nodeAt (tr3 x) i).kind = 13 then true else am) (oneT s (nodeAt (tr3 x) i) cp am).1
      else ((oneT s (nodeAt (tr3 x) i) cp am).1, some ((oneT s (nodeAt (tr3 x) i) cp am).2, i)) := fun _ _ _ _ _ => rfl
  have e2 : nodeT (tr3 x) 18 2 1 false ⟨0, 0, 0⟩ = if x ≤ 127 then (⟨0, 0, 0⟩, none) else (⟨0, 0, 0⟩, some (22, 2)) := by
    have hn : nodeAt (tr3 x) 2 = ⟨17, [], [x], [], 5⟩ := rfl
    rw [eq 17, hn, ho]
    by_cases c : x ≤ 127
    · rw [if_pos c, if_pos c]; rfl
    · rw [if_neg c, if_neg c]; rfl
  have e1 : nodeT (tr3 x) 19 1 1 false ⟨0, 0, 0⟩ = kidsT (nodeT (tr3 x) 18) [2] 1 false ⟨0, 0, 0⟩ := rfl
  have e0 : nodeT (tr3 x) 20 0 1 false ⟨0, 0, 0⟩ = kidsT (nodeT (tr3 x) 19) [1] 1 false ⟨0, 0, 0⟩ := rfl
  have t2 : (2 : Int).toNat = 2 := rfl
  unfold typM
  rw [if_pos hs, e0]
  simp only [kidsT, Int.toNat_one, e1, t2, e2]
  by_cases c : x ≤ 127
  · simp [c, fltE]
  · simp [c, fltE, nodeAt, tr3]
end Go.Proofs.Ythbbeliibdhjmaa

/- The laws on numbers: bounds (what is read). -/
namespace Go.Proofs.Ythbbeliibdhjmaa
open Go.HL
set_option maxRecDepth 100000
set_option linter.unusedSimpArgs false
set_option linter.unusedVariables false

def digs : List UInt8 := [48, 49, 50, 51, 52, 53, 54, 55, 56, 57]
theorem digs_of {c : UInt8} (h : digitM c = true) : c ∈ digs := by
  unfold digitM at h
  rw [decide_eq_true_eq] at h
  have e : c = UInt8.ofNat c.toNat := by simp
  have : c.toNat = 48 ∨ c.toNat = 49 ∨ c.toNat = 50 ∨ c.toNat = 51 ∨ c.toNat = 52 ∨ c.toNat = 53 ∨ c.toNat = 54 ∨ c.toNat = 55 ∨ c.toNat = 56 ∨ c.toNat = 57 := by omega
  rw [e]
  rcases this with h | h | h | h | h | h | h | h | h | h <;> rw [h] <;> decide
/-- A number's digits. -/
structure Dg (n : Int) (A : Str) : Prop where
  pos : A.length ≠ 0
  six : A.length ≤ 6
  all : A.all digitM = true
  val : valM A = n
theorem Dg.ok {n : Int} {A : Str} (h : Dg n A) : (Pc.nm A).ok = true := by
  show (decide (A.length ≠ 0) && (decide (A.length ≤ 6) && A.all digitM)) = true
  rw [h.all, decide_eq_true h.pos, decide_eq_true h.six]; rfl
theorem Dg.head {n : Int} {A : Str} (h : Dg n A) : ∃ c A', A = c :: A' ∧ c ∈ digs := by
  cases A with
  | nil => exact absurd rfl h.pos
  | cons c A' => exact ⟨c, A', rfl, digs_of (by have := h.all; rw [List.all_cons, Bool.and_eq_true] at this; exact this.1)⟩
theorem dg_of {n : Int} (h0 : 0 ≤ n) (h9 : n ≤ 999999) : Dg n (digI n) := by
  unfold digI
  rw [if_neg (by omega)]
  have h7 : n.toNat < 10 ^ 6 := by
    have : (10 : Nat) ^ 6 = 1000000 := rfl
    omega
  refine ⟨Nat.ne_of_gt (digF_pos (f := 6)), digF_len2 7 _ 6 h7 (by omega), digF_all _ _, ?_⟩
  rw [digF_val 7 _ (by have : (10 : Nat) ^ 7 = 10000000 := rfl; have : (10 : Nat) ^ 6 = 1000000 := rfl; omega)]
  omega
theorem pg0 {c d : UInt8} {A B : Str} (hc : c ∈ digs) (hd : d ∈ digs) {q1 q2 q3 q4 q5 : Nat} : ((progM [⟨0, [99, 104, 97, 110], 0⟩, ⟨0, [99], 5⟩, ⟨2, [91], 6⟩, ⟨1, (c :: A), 7⟩, ⟨2, [93], q1⟩, ⟨0, [111, 102], q2⟩, ⟨1, (d :: B), q3⟩, ⟨2, [59], q4⟩, ⟨3, [], q5⟩] 40 ⟨0, 0, ⟨0, 0⟩⟩).bind fun r => if r.2.flt.err = 0 then
      (if r.1.2.cnt + 1 ≤ 1000000 then
        (if 800 < (layF r.1.2 0 [r.1.1]).length then some ([], ⟨12, 0⟩) else if 0 ≤ deepT r.1.1 r.1.2 1 then some ([], ⟨12, deepT r.1.1 r.1.2 1⟩) else some (layF r.1.2 0 [r.1.1], ⟨0, 0⟩))
      else none) else some ([], r.2.flt)) = (some (tr0 (valM (c :: A)) (valM (d :: B)), ⟨0, 0⟩) : Option (List Nd × Flt)) := by
  simp only [digs, List.mem_cons, List.not_mem_nil, or_false] at hc hd
  rcases hc with rfl | rfl | rfl | rfl | rfl | rfl | rfl | rfl | rfl | rfl <;> rcases hd with rfl | rfl | rfl | rfl | rfl | rfl | rfl | rfl | rfl | rfl
  all_goals kernel_rfl
theorem ok0 {c d : UInt8} {A B : Str} (hc : c ∈ digs) (hd : d ∈ digs) (hA : (Pc.nm (c :: A)).ok = true) (hB : (Pc.nm (d :: B)).ok = true) : pcOk [.wd [99, 104, 97, 110], .sp 32, .wd [99], .sg [91], .nm (c :: A), .sg [93], .sp 32, .wd [111, 102], .sp 32, .nm (d :: B), .sg [59]] = true := by
  simp only [pcOk, hA, hB, Bool.true_and]
  clear hA hB
  simp only [digs, List.mem_cons, List.not_mem_nil, or_false] at hc hd
  rcases hc with rfl | rfl | rfl | rfl | rfl | rfl | rfl | rfl | rfl | rfl <;> rcases hd with rfl | rfl | rfl | rfl | rfl | rfl | rfl | rfl | rfl | rfl
  all_goals kernel_rfl
theorem pr0 {c d : UInt8} {A B : Str} (hc : c ∈ digs) (hd : d ∈ digs) (hA : (Pc.nm (c :: A)).ok = true) (hB : (Pc.nm (d :: B)).ok = true) (hl : (pcS [.wd [99, 104, 97, 110], .sp 32, .wd [99], .sg [91], .nm (c :: A), .sg [93], .sp 32, .wd [111, 102], .sp 32, .nm (d :: B), .sg [59]]).length ≤ 4000) : parseM 40 (pcS [.wd [99, 104, 97, 110], .sp 32, .wd [99], .sg [91], .nm (c :: A), .sg [93], .sp 32, .wd [111, 102], .sp 32, .nm (d :: B), .sg [59]]) = some (tr0 (valM (c :: A)) (valM (d :: B)), ⟨0, 0⟩) := by
  have ht := tokens_pcs (n := 40) (ok0 hc hd hA hB) (by simp) hl
  obtain ⟨q1, q2, q3, q4, q5, hL⟩ : ∃ q1 q2 q3 q4 q5 : Nat, pcT 0 [.wd [99, 104, 97, 110], .sp 32, .wd [99], .sg [91], .nm (c :: A), .sg [93], .sp 32, .wd [111, 102], .sp 32, .nm (d :: B), .sg [59]] = [⟨0, [99, 104, 97, 110], 0⟩, ⟨0, [99], 5⟩, ⟨2, [91], 6⟩, ⟨1, (c :: A), 7⟩, ⟨2, [93], q1⟩, ⟨0, [111, 102], q2⟩, ⟨1, (d :: B), q3⟩, ⟨2, [59], q4⟩, ⟨3, [], q5⟩] := ⟨_, _, _, _, _, rfl⟩
  have hq := pg0 (A := A) (B := B) hc hd (q1 := q1) (q2 := q2) (q3 := q3) (q4 := q4) (q5 := q5)
  unfold parseM
  rw [ht, hL, Option.bind_some, if_pos rfl]
  exact hq
theorem pg1p {c d : UInt8} {A B : Str} (hc : c ∈ digs) (hd : d ∈ digs) {q1 q2 q3 q4 : Nat} : ((progM [⟨0, [118, 97, 114], 0⟩, ⟨0, [120], 4⟩, ⟨0, [111, 102], 6⟩, ⟨1, (c :: A), 9⟩, ⟨2, [61], q1⟩, ⟨1, (d :: B), q2⟩, ⟨2, [59], q3⟩, ⟨3, [], q4⟩] 40 ⟨0, 0, ⟨0, 0⟩⟩).bind fun r => if r.2.flt.err = 0 then
      (if r.1.2.cnt + 1 ≤ 1000000 then
        (if 800 < (layF r.1.2 0 [r.1.1]).length then some ([], ⟨12, 0⟩) else if 0 ≤ deepT r.1.1 r.1.2 1 then some ([], ⟨12, deepT r.1.1 r.1.2 1⟩) else some (layF r.1.2 0 [r.1.1], ⟨0, 0⟩))
      else none) else some ([], r.2.flt)) = (some (tr1 (valM (c :: A)) (valM (d :: B)), ⟨0, 0⟩) : Option (List Nd × Flt)) := by
  simp only [digs, List.mem_cons, List.not_mem_nil, or_false] at hc hd
  rcases hc with rfl | rfl | rfl | rfl | rfl | rfl | rfl | rfl | rfl | rfl <;> rcases hd with rfl | rfl | rfl | rfl | rfl | rfl | rfl | rfl | rfl | rfl
  all_goals kernel_rfl
theorem ok1p {c d : UInt8} {A B : Str} (hc : c ∈ digs) (hd : d ∈ digs) (hA : (Pc.nm (c :: A)).ok = true) (hB : (Pc.nm (d :: B)).ok = true) : pcOk [.wd [118, 97, 114], .sp 32, .wd [120], .sp 32, .wd [111, 102], .sp 32, .nm (c :: A), .sp 32, .sg [61], .sp 32, .nm (d :: B), .sg [59]] = true := by
  simp only [pcOk, hA, hB, Bool.true_and]
  clear hA hB
  simp only [digs, List.mem_cons, List.not_mem_nil, or_false] at hc hd
  rcases hc with rfl | rfl | rfl | rfl | rfl | rfl | rfl | rfl | rfl | rfl <;> rcases hd with rfl | rfl | rfl | rfl | rfl | rfl | rfl | rfl | rfl | rfl
  all_goals kernel_rfl
theorem pr1p {c d : UInt8} {A B : Str} (hc : c ∈ digs) (hd : d ∈ digs) (hA : (Pc.nm (c :: A)).ok = true) (hB : (Pc.nm (d :: B)).ok = true) (hl : (pcS [.wd [118, 97, 114], .sp 32, .wd [120], .sp 32, .wd [111, 102], .sp 32, .nm (c :: A), .sp 32, .sg [61], .sp 32, .nm (d :: B), .sg [59]]).length ≤ 4000) : parseM 40 (pcS [.wd [118, 97, 114], .sp 32, .wd [120], .sp 32, .wd [111, 102], .sp 32, .nm (c :: A), .sp 32, .sg [61], .sp 32, .nm (d :: B), .sg [59]]) = some (tr1 (valM (c :: A)) (valM (d :: B)), ⟨0, 0⟩) := by
  have ht := tokens_pcs (n := 40) (ok1p hc hd hA hB) (by simp) hl
  obtain ⟨q1, q2, q3, q4, hL⟩ : ∃ q1 q2 q3 q4 : Nat, pcT 0 [.wd [118, 97, 114], .sp 32, .wd [120], .sp 32, .wd [111, 102], .sp 32, .nm (c :: A), .sp 32, .sg [61], .sp 32, .nm (d :: B), .sg [59]] = [⟨0, [118, 97, 114], 0⟩, ⟨0, [120], 4⟩, ⟨0, [111, 102], 6⟩, ⟨1, (c :: A), 9⟩, ⟨2, [61], q1⟩, ⟨1, (d :: B), q2⟩, ⟨2, [59], q3⟩, ⟨3, [], q4⟩] := ⟨_, _, _, _, rfl⟩
  have hq := pg1p (A := A) (B := B) hc hd (q1 := q1) (q2 := q2) (q3 := q3) (q4 := q4)
  unfold parseM
  rw [ht, hL, Option.bind_some, if_pos rfl]
  exact hq
theorem pg1n {c d : UInt8} {A B : Str} (hc : c ∈ digs) (hd : d ∈ digs) {q1 q2 q3 q4 q5 : Nat} : ((progM [⟨0, [118, 97, 114], 0⟩, ⟨0, [120], 4⟩, ⟨0, [111, 102], 6⟩, ⟨1, (c :: A), 9⟩, ⟨2, [61], q1⟩, ⟨2, [45], q2⟩, ⟨1, (d :: B), q3⟩, ⟨2, [59], q4⟩, ⟨3, [], q5⟩] 40 ⟨0, 0, ⟨0, 0⟩⟩).bind fun r => if r.2.flt.err = 0 then
      (if r.1.2.cnt + 1 ≤ 1000000 then
        (if 800 < (layF r.1.2 0 [r.1.1]).length then some ([], ⟨12, 0⟩) else if 0 ≤ deepT r.1.1 r.1.2 1 then some ([], ⟨12, deepT r.1.1 r.1.2 1⟩) else some (layF r.1.2 0 [r.1.1], ⟨0, 0⟩))
      else none) else some ([], r.2.flt)) = (some (tr1 (valM (c :: A)) (-valM (d :: B)), ⟨0, 0⟩) : Option (List Nd × Flt)) := by
  simp only [digs, List.mem_cons, List.not_mem_nil, or_false] at hc hd
  rcases hc with rfl | rfl | rfl | rfl | rfl | rfl | rfl | rfl | rfl | rfl <;> rcases hd with rfl | rfl | rfl | rfl | rfl | rfl | rfl | rfl | rfl | rfl
  all_goals kernel_rfl
theorem ok1n {c d : UInt8} {A B : Str} (hc : c ∈ digs) (hd : d ∈ digs) (hA : (Pc.nm (c :: A)).ok = true) (hB : (Pc.nm (d :: B)).ok = true) : pcOk [.wd [118, 97, 114], .sp 32, .wd [120], .sp 32, .wd [111, 102], .sp 32, .nm (c :: A), .sp 32, .sg [61], .sp 32, .sg [45], .nm (d :: B), .sg [59]] = true := by
  simp only [pcOk, hA, hB, Bool.true_and]
  clear hA hB
  simp only [digs, List.mem_cons, List.not_mem_nil, or_false] at hc hd
  rcases hc with rfl | rfl | rfl | rfl | rfl | rfl | rfl | rfl | rfl | rfl <;> rcases hd with rfl | rfl | rfl | rfl | rfl | rfl | rfl | rfl | rfl | rfl
  all_goals kernel_rfl
theorem pr1n {c d : UInt8} {A B : Str} (hc : c ∈ digs) (hd : d ∈ digs) (hA : (Pc.nm (c :: A)).ok = true) (hB : (Pc.nm (d :: B)).ok = true) (hl : (pcS [.wd [118, 97, 114], .sp 32, .wd [120], .sp 32, .wd [111, 102], .sp 32, .nm (c :: A), .sp 32, .sg [61], .sp 32, .sg [45], .nm (d :: B), .sg [59]]).length ≤ 4000) : parseM 40 (pcS [.wd [118, 97, 114], .sp 32, .wd [120], .sp 32, .wd [111, 102], .sp 32, .nm (c :: A), .sp 32, .sg [61], .sp 32, .sg [45], .nm (d :: B), .sg [59]]) = some (tr1 (valM (c :: A)) (-valM (d :: B)), ⟨0, 0⟩) := by
  have ht := tokens_pcs (n := 40) (ok1n hc hd hA hB) (by simp) hl
  obtain ⟨q1, q2, q3, q4, q5, hL⟩ : ∃ q1 q2 q3 q4 q5 : Nat, pcT 0 [.wd [118, 97, 114], .sp 32, .wd [120], .sp 32, .wd [111, 102], .sp 32, .nm (c :: A), .sp 32, .sg [61], .sp 32, .sg [45], .nm (d :: B), .sg [59]] = [⟨0, [118, 97, 114], 0⟩, ⟨0, [120], 4⟩, ⟨0, [111, 102], 6⟩, ⟨1, (c :: A), 9⟩, ⟨2, [61], q1⟩, ⟨2, [45], q2⟩, ⟨1, (d :: B), q3⟩, ⟨2, [59], q4⟩, ⟨3, [], q5⟩] := ⟨_, _, _, _, _, rfl⟩
  have hq := pg1n (A := A) (B := B) hc hd (q1 := q1) (q2 := q2) (q3 := q3) (q4 := q4) (q5 := q5)
  unfold parseM
  rw [ht, hL, Option.bind_some, if_pos rfl]
  exact hq
theorem pg2 {c : UInt8} {A : Str} (hc : c ∈ digs) {q1 q2 q3 : Nat} : ((progM [⟨0, [112, 114, 111, 99], 0⟩, ⟨0, [112], 5⟩, ⟨2, [42], 7⟩, ⟨1, (c :: A), 9⟩, ⟨2, [123], q1⟩, ⟨2, [125], q2⟩, ⟨3, [], q3⟩] 40 ⟨0, 0, ⟨0, 0⟩⟩).bind fun r => if r.2.flt.err = 0 then
      (if r.1.2.cnt + 1 ≤ 1000000 then
        (if 800 < (layF r.1.2 0 [r.1.1]).length then some ([], ⟨12, 0⟩) else if 0 ≤ deepT r.1.1 r.1.2 1 then some ([], ⟨12, deepT r.1.1 r.1.2 1⟩) else some (layF r.1.2 0 [r.1.1], ⟨0, 0⟩))
      else none) else some ([], r.2.flt)) = (some (tr2 (valM (c :: A)), ⟨0, 0⟩) : Option (List Nd × Flt)) := by
  simp only [digs, List.mem_cons, List.not_mem_nil, or_false] at hc
  rcases hc with rfl | rfl | rfl | rfl | rfl | rfl | rfl | rfl | rfl | rfl
  all_goals kernel_rfl
theorem ok2 {c : UInt8} {A : Str} (hc : c ∈ digs) (hA : (Pc.nm (c :: A)).ok = true) : pcOk [.wd [112, 114, 111, 99], .sp 32, .wd [112], .sp 32, .sg [42], .sp 32, .nm (c :: A), .sp 32, .sg [123], .sp 32, .sg [125]] = true := by
  simp only [pcOk, hA, Bool.true_and]
  clear hA
  simp only [digs, List.mem_cons, List.not_mem_nil, or_false] at hc
  rcases hc with rfl | rfl | rfl | rfl | rfl | rfl | rfl | rfl | rfl | rfl
  all_goals kernel_rfl
theorem pr2 {c : UInt8} {A : Str} (hc : c ∈ digs) (hA : (Pc.nm (c :: A)).ok = true) (hl : (pcS [.wd [112, 114, 111, 99], .sp 32, .wd [112], .sp 32, .sg [42], .sp 32, .nm (c :: A), .sp 32, .sg [123], .sp 32, .sg [125]]).length ≤ 4000) : parseM 40 (pcS [.wd [112, 114, 111, 99], .sp 32, .wd [112], .sp 32, .sg [42], .sp 32, .nm (c :: A), .sp 32, .sg [123], .sp 32, .sg [125]]) = some (tr2 (valM (c :: A)), ⟨0, 0⟩) := by
  have ht := tokens_pcs (n := 40) (ok2 hc hA) (by simp) hl
  obtain ⟨q1, q2, q3, hL⟩ : ∃ q1 q2 q3 : Nat, pcT 0 [.wd [112, 114, 111, 99], .sp 32, .wd [112], .sp 32, .sg [42], .sp 32, .nm (c :: A), .sp 32, .sg [123], .sp 32, .sg [125]] = [⟨0, [112, 114, 111, 99], 0⟩, ⟨0, [112], 5⟩, ⟨2, [42], 7⟩, ⟨1, (c :: A), 9⟩, ⟨2, [123], q1⟩, ⟨2, [125], q2⟩, ⟨3, [], q3⟩] := ⟨_, _, _, rfl⟩
  have hq := pg2 (A := A) hc (q1 := q1) (q2 := q2) (q3 := q3)
  unfold parseM
  rw [ht, hL, Option.bind_some, if_pos rfl]
  exact hq
theorem pg3 {c : UInt8} {A : Str} (hc : c ∈ digs) {q1 q2 : Nat} : ((progM [⟨0, [115, 97, 102, 101], 0⟩, ⟨1, (c :: A), 5⟩, ⟨2, [59], q1⟩, ⟨3, [], q2⟩] 40 ⟨0, 0, ⟨0, 0⟩⟩).bind fun r => if r.2.flt.err = 0 then
      (if r.1.2.cnt + 1 ≤ 1000000 then
        (if 800 < (layF r.1.2 0 [r.1.1]).length then some ([], ⟨12, 0⟩) else if 0 ≤ deepT r.1.1 r.1.2 1 then some ([], ⟨12, deepT r.1.1 r.1.2 1⟩) else some (layF r.1.2 0 [r.1.1], ⟨0, 0⟩))
      else none) else some ([], r.2.flt)) = (some (tr3 (valM (c :: A)), ⟨0, 0⟩) : Option (List Nd × Flt)) := by
  simp only [digs, List.mem_cons, List.not_mem_nil, or_false] at hc
  rcases hc with rfl | rfl | rfl | rfl | rfl | rfl | rfl | rfl | rfl | rfl
  all_goals kernel_rfl
theorem ok3 {c : UInt8} {A : Str} (hc : c ∈ digs) (hA : (Pc.nm (c :: A)).ok = true) : pcOk [.wd [115, 97, 102, 101], .sp 32, .nm (c :: A), .sg [59]] = true := by
  simp only [pcOk, hA, Bool.true_and]
  clear hA
  simp only [digs, List.mem_cons, List.not_mem_nil, or_false] at hc
  rcases hc with rfl | rfl | rfl | rfl | rfl | rfl | rfl | rfl | rfl | rfl
  all_goals kernel_rfl
theorem pr3 {c : UInt8} {A : Str} (hc : c ∈ digs) (hA : (Pc.nm (c :: A)).ok = true) (hl : (pcS [.wd [115, 97, 102, 101], .sp 32, .nm (c :: A), .sg [59]]).length ≤ 4000) : parseM 40 (pcS [.wd [115, 97, 102, 101], .sp 32, .nm (c :: A), .sg [59]]) = some (tr3 (valM (c :: A)), ⟨0, 0⟩) := by
  have ht := tokens_pcs (n := 40) (ok3 hc hA) (by simp) hl
  obtain ⟨q1, q2, hL⟩ : ∃ q1 q2 : Nat, pcT 0 [.wd [115, 97, 102, 101], .sp 32, .nm (c :: A), .sg [59]] = [⟨0, [115, 97, 102, 101], 0⟩, ⟨1, (c :: A), 5⟩, ⟨2, [59], q1⟩, ⟨3, [], q2⟩] := ⟨_, _, rfl⟩
  have hq := pg3 (A := A) hc (q1 := q1) (q2 := q2)
  unfold parseM
  rw [ht, hL, Option.bind_some, if_pos rfl]
  exact hq
end Go.Proofs.Ythbbeliibdhjmaa

/- The law TypingBounds, over heaps. -/
namespace Go.Proofs.Ythbbeliibdhjmaa
open Go.HL
set_option maxRecDepth 10000
set_option linter.unusedSimpArgs false
set_option linter.unusedVariables false

theorem u8_rng (m : Int) (k : Int) (h : 0 < k) : 0 ≤ m % k ∧ m % k < k := ⟨Int.emod_nonneg m (by omega), Int.emod_lt_of_pos m h⟩
theorem dig_len {n : Int} (h : -999999 ≤ n ∧ n ≤ 999999) : (digI n).length ≤ 8 := by
  unfold digI
  split
  · have := digF_len 7 (-n).toNat; simp; omega
  · have := digF_len 7 n.toNat; omega
theorem digI_neg {n : Int} (h : n < 0) : digI n = 45 :: digI (-n) := by
  unfold digI
  rw [if_pos h, if_neg (by omega)]
/-- What is read and checked. -/
def BdQ (text : Str) (fits : Bool) : Prop := ∃ l p, parseM 40 text = some (l, ⟨0, 0⟩) ∧ typM l = ⟨if fits then 0 else 22, p⟩ ∧ Sz l
theorem bq0 {a b : Int} (ha : 0 ≤ a ∧ a ≤ 999999) (hb : 0 ≤ b ∧ b ≤ 999999) {fits : Bool} {text : Str} (ht : text = [99, 104, 97, 110] ++ ([32] ++ ([99] ++ ([91] ++ (digI a ++ ([93] ++ ([32] ++ ([111, 102] ++ ([32] ++ (digI b ++ ([59]))))))))))) (hf : fits = decide ((1 ≤ a ∧ a ≤ 3) ∧ (1 ≤ b ∧ b ≤ 8))) : BdQ text fits := by
  have gA := dg_of ha.1 ha.2
  obtain ⟨c, A, eA, hc⟩ := gA.head
  rw [eA] at gA
  have gB := dg_of hb.1 hb.2
  obtain ⟨d, B, eB, hd⟩ := gB.head
  rw [eB] at gB
  have lA : (c :: A).length ≤ 6 := gA.six
  have lB : (d :: B).length ≤ 6 := gB.six
  have e : text = pcS [.wd [99, 104, 97, 110], .sp 32, .wd [99], .sg [91], .nm (c :: A), .sg [93], .sp 32, .wd [111, 102], .sp 32, .nm (d :: B), .sg [59]] := by rw [ht]; rw [eA, eB]; simp [pcS, Pc.txt]
  have hp := pr0 hc hd gA.ok gB.ok (by simp [pcS, Pc.txt] at lA lB ⊢; omega)
  rw [← e, gA.val, gB.val] at hp
  refine ⟨_, 0, hp, ?_, sz0⟩
  rw [hf]
  have := ty0 ha hb
  by_cases c : (1 ≤ a ∧ a ≤ 3) ∧ (1 ≤ b ∧ b ≤ 8)
  · rw [if_pos c] at this
    rw [this, decide_eq_true c]; rfl
  · rw [if_neg c] at this
    rw [this, decide_eq_false c]; rfl
theorem bq1p {a b : Int} (ha : 0 ≤ a ∧ a ≤ 999999) (hb : 0 ≤ b ∧ b ≤ 999999) {fits : Bool} {text : Str} (ht : text = [118, 97, 114] ++ ([32] ++ ([120] ++ ([32] ++ ([111, 102] ++ ([32] ++ (digI a ++ ([32] ++ ([61] ++ ([32] ++ (digI b ++ ([59])))))))))))) (hf : fits = decide ((1 ≤ a ∧ a ≤ 8) ∧ trimI b a = b)) : BdQ text fits := by
  have gA := dg_of ha.1 ha.2
  obtain ⟨c, A, eA, hc⟩ := gA.head
  rw [eA] at gA
  have gB := dg_of hb.1 hb.2
  obtain ⟨d, B, eB, hd⟩ := gB.head
  rw [eB] at gB
  have lA : (c :: A).length ≤ 6 := gA.six
  have lB : (d :: B).length ≤ 6 := gB.six
  have e : text = pcS [.wd [118, 97, 114], .sp 32, .wd [120], .sp 32, .wd [111, 102], .sp 32, .nm (c :: A), .sp 32, .sg [61], .sp 32, .nm (d :: B), .sg [59]] := by rw [ht]; rw [eA, eB]; simp [pcS, Pc.txt]
  have hp := pr1p hc hd gA.ok gB.ok (by simp [pcS, Pc.txt] at lA lB ⊢; omega)
  rw [← e, gA.val, gB.val] at hp
  refine ⟨_, 0, hp, ?_, sz1⟩
  rw [hf]
  have := ty1 (x := a) (y := b) ha ⟨by omega, hb.2⟩
  by_cases c : (1 ≤ a ∧ a ≤ 8) ∧ trimI b a = b
  · rw [if_pos c] at this
    rw [this, decide_eq_true c]; rfl
  · rw [if_neg c] at this
    rw [this, decide_eq_false c]; rfl
theorem bq1n {a b : Int} (ha : 0 ≤ a ∧ a ≤ 999999) (hb : 0 ≤ b ∧ b ≤ 999999) {fits : Bool} {text : Str} (ht : text = [118, 97, 114] ++ ([32] ++ ([120] ++ ([32] ++ ([111, 102] ++ ([32] ++ (digI a ++ ([32] ++ ([61] ++ ([32] ++ ([45] ++ (digI b ++ ([59]))))))))))))) (hf : fits = decide ((1 ≤ a ∧ a ≤ 8) ∧ trimI (-b) a = -b)) : BdQ text fits := by
  have gA := dg_of ha.1 ha.2
  obtain ⟨c, A, eA, hc⟩ := gA.head
  rw [eA] at gA
  have gB := dg_of hb.1 hb.2
  obtain ⟨d, B, eB, hd⟩ := gB.head
  rw [eB] at gB
  have lA : (c :: A).length ≤ 6 := gA.six
  have lB : (d :: B).length ≤ 6 := gB.six
  have e : text = pcS [.wd [118, 97, 114], .sp 32, .wd [120], .sp 32, .wd [111, 102], .sp 32, .nm (c :: A), .sp 32, .sg [61], .sp 32, .sg [45], .nm (d :: B), .sg [59]] := by rw [ht]; rw [eA, eB]; simp [pcS, Pc.txt]
  have hp := pr1n hc hd gA.ok gB.ok (by simp [pcS, Pc.txt] at lA lB ⊢; omega)
  rw [← e, gA.val, gB.val] at hp
  refine ⟨_, 0, hp, ?_, sz1⟩
  rw [hf]
  have := ty1 (x := a) (y := -b) ha ⟨by omega, by omega⟩
  by_cases c : (1 ≤ a ∧ a ≤ 8) ∧ trimI (-b) a = -b
  · rw [if_pos c] at this
    rw [this, decide_eq_true c]; rfl
  · rw [if_neg c] at this
    rw [this, decide_eq_false c]; rfl
theorem bq2 {a : Int} (ha : 0 ≤ a ∧ a ≤ 999999) {fits : Bool} {text : Str} (ht : text = [112, 114, 111, 99] ++ ([32] ++ ([112] ++ ([32] ++ ([42] ++ ([32] ++ (digI a ++ ([32] ++ ([123] ++ ([32] ++ ([125]))))))))))) (hf : fits = decide (1 ≤ a ∧ a ≤ 4)) : BdQ text fits := by
  have gA := dg_of ha.1 ha.2
  obtain ⟨c, A, eA, hc⟩ := gA.head
  rw [eA] at gA
  have lA : (c :: A).length ≤ 6 := gA.six
  have e : text = pcS [.wd [112, 114, 111, 99], .sp 32, .wd [112], .sp 32, .sg [42], .sp 32, .nm (c :: A), .sp 32, .sg [123], .sp 32, .sg [125]] := by rw [ht]; rw [eA]; simp [pcS, Pc.txt]
  have hp := pr2 hc gA.ok (by simp [pcS, Pc.txt] at lA ⊢; omega)
  rw [← e, gA.val] at hp
  refine ⟨_, 0, hp, ?_, sz2⟩
  rw [hf]
  have := ty2 ha
  by_cases c : 1 ≤ a ∧ a ≤ 4
  · rw [if_pos c] at this
    rw [this, decide_eq_true c]; rfl
  · rw [if_neg c] at this
    rw [this, decide_eq_false c]; rfl
theorem bq3 {a : Int} (ha : 0 ≤ a ∧ a ≤ 999999) {fits : Bool} {text : Str} (ht : text = [115, 97, 102, 101] ++ ([32] ++ (digI a ++ ([59])))) (hf : fits = decide (a ≤ 127)) : BdQ text fits := by
  have gA := dg_of ha.1 ha.2
  obtain ⟨c, A, eA, hc⟩ := gA.head
  rw [eA] at gA
  have lA : (c :: A).length ≤ 6 := gA.six
  have e : text = pcS [.wd [115, 97, 102, 101], .sp 32, .nm (c :: A), .sg [59]] := by rw [ht]; rw [eA]; simp [pcS, Pc.txt]
  have hp := pr3 hc gA.ok (by simp [pcS, Pc.txt] at lA ⊢; omega)
  rw [← e, gA.val] at hp
  have := ty3 ha
  rw [hf]
  by_cases c : a ≤ 127
  · rw [if_pos c] at this
    exact ⟨_, 0, hp, by rw [this, decide_eq_true c]; rfl, sz3⟩
  · rw [if_neg c] at this
    exact ⟨_, 5, hp, by rw [this, decide_eq_false c]; rfl, sz3⟩
end Go.Proofs.Ythbbeliibdhjmaa

/- The law TypingBounds, over heaps: the walk. -/
namespace Go.Proofs.Ythbbeliibdhjmaa
open Go.HL
set_option maxRecDepth 10000
set_option linter.unusedSimpArgs false
set_option linter.unusedVariables false

section
variable {H : Heap}
set_option maxHeartbeats 8000000 in
theorem typingBounds_spec {n0 n1 n2 n3 m : Int} (hm : 0 ≤ m ∧ m ≤ 255) : CallF Try.prog 5 [.agg #[iv n0, iv n1, iv n2, iv n3], .int .u8 m] H (fun r H' => r = .bool true ∧ Fr [] H H') NoP := by
  have c0 := u8_rng m 4 (by omega)
  have tm0 : m.tmod 4 = m % 4 := Int.tmod_eq_emod_of_nonneg (by omega)
  obtain ⟨A, hA⟩ : ∃ A, A = H.push (.cells #[iv n0, iv n1, iv n2, iv n3] 35) := ⟨_, rfl⟩
  have f0 : Fr [] H A := by rw [hA]; exact Fr.push
  have bA : Blk A H.size 35 [iv n0, iv n1, iv n2, iv n3] := by rw [hA]; exact Blk.new rfl
  refine callF_of Try.func5 rfl Try.ntmps5 Try.results5 (by decide) rfl ?_
  simp (disch := omega) only [go_sem, ↓cw_block, dsB_of]
  rw [← hA]
  refine call_to w12awake_spec ?_
  intro r1 H1 hv
  refine Hush.out ?_
  obtain ⟨rfl, f1⟩ := hv
  have f01 := f0.trans f1
  have b1 := f1.blk bA (by simp)
  have k0 := b1.cell 0
  have k1 := b1.cell 1
  have k2 := b1.cell 2
  have k3 := b1.cell 3
  simp only [List.getElem?_cons_succ, List.getElem?_cons_zero] at k0 k1 k2 k3
  refine ⟨?_⟩
  simp (disch := omega) only [go_sem, ↓cw_block, dsB_of]
  refine loop_by (fun q ρ H2 => ∃ i : Nat, q = 4 - i ∧ i ≤ 4 ∧ H1 = H2 ∧ (∀ j, j < i → -999999 ≤ [n0, n1, n2, n3].getD j 0 ∧ [n0, n1, n2, n3].getD j 0 ≤ 999999) ∧ (ρ.get 1 = .int .u8 m ∧ ρ.get 2 = hp H.size ∧ ρ.get 5 = iv i ∧ ρ.ds = [])) (k := 4) ?_ ?_
  · exact ⟨0, rfl, by omega, rfl, by simp, by simp (disch := omega) only [go_sem, ↓cw_block, dsB_of]⟩
  · rintro q ρ _ ⟨i, rfl, hi, rfl, hall, r1, r2, r5, rd⟩
    have hxi : (i : Int) + 1 = ((i + 1 : Nat) : Int) := by omega
    by_cases hi4 : i < 4
    · have kc : cellH H1 ⟨H.size, i, none⟩ = some (iv ([n0, n1, n2, n3].getD i 0)) := by
        have : i = 0 ∨ i = 1 ∨ i = 2 ∨ i = 3 := by omega
        rcases this with rfl | rfl | rfl | rfl
        · exact k0
        · exact k1
        · exact k2
        · exact k3
      generalize hx : [n0, n1, n2, n3].getD i 0 = x at *
      by_cases d1 : x < -999999
      · simp (disch := omega) only [go_sem, ↓cw_block, dsB_of, r1, r2, r5, rd, kc]
        exact fin ⟨rfl, f01⟩
      by_cases d2 : x > 999999
      · simp (disch := omega) only [go_sem, ↓cw_block, dsB_of, r1, r2, r5, rd, kc]
        exact fin ⟨rfl, f01⟩
      simp (disch := omega) only [go_sem, ↓cw_block, dsB_of, r1, r2, r5, rd, kc]
      refine fin ⟨4 - (i + 1), by omega, i + 1, rfl, by omega, rfl, ?_, by simp (disch := omega) only [go_sem, ↓cw_block, dsB_of, r1, r2, r5, rd, hxi]⟩
      intro j hj
      by_cases e : j = i
      · subst e; rw [hx]; omega
      · exact hall j (by omega)
    obtain rfl : i = 4 := by omega
    have g0 := hall 0 (by omega)
    have g1 := hall 1 (by omega)
    have g2 := hall 2 (by omega)
    have g3 := hall 3 (by omega)
    simp only [List.getD_cons_zero, List.getD_cons_succ] at g0 g1 g2 g3
    clear hall
    obtain ⟨a, ha⟩ : ∃ a, a = max n0 0 := ⟨_, rfl⟩
    obtain ⟨b, hb⟩ : ∃ b, b = max n1 0 := ⟨_, rfl⟩
    obtain ⟨e, he⟩ : ∃ e, e = max n3 0 := ⟨_, rfl⟩
    have ra : 0 ≤ a ∧ a ≤ 999999 := by omega
    have rb : 0 ≤ b ∧ b ≤ 999999 := by omega
    have re : 0 ≤ e ∧ e ≤ 999999 := by omega
    have la := dig_len (n := a) (by omega)
    have lb := dig_len (n := b) (by omega)
    have lc := dig_len (n := n2) (by omega)
    have le := dig_len (n := e) (by omega)
    simp (disch := omega) only [go_sem, dsB_of, r1, r2, r5, rd]
    refine draw0 (lk [(0, true), (1, true), (2, true), (3, true), (4, true), (5, true), (6, true), (7, true)] .fin) T.mixed ?_
    have ha' : max n0 0 = a := ha.symm
    have hb' : max n1 0 = b := hb.symm
    have he' : max n3 0 = e := he.symm
    simp (disch := omega) only [go_sem, dsB_of, r1, r2, r5, rd, k0, k1, ha', hb']
    refine cut_at (fun ρ H2 => ∃ text fits, Fr [] H1 H2 ∧ BdQ text fits ∧ (ρ.get 8 = sv text ∧ ρ.get 9 = .bool fits ∧ ρ.ds = [])) ?_ ?_
    · have t1 : m % 4 = 0 ∨ m % 4 = 1 ∨ m % 4 = 2 ∨ m % 4 = 3 := by omega
      rcases t1 with e1 | e1 | e1 | e1
      · rw [e1] at tm0
        have q1 : ([99, 104, 97, 110, 32, 99, 91] ++ digI a).length = 7 + (digI a).length := by rw [List.length_append]; rfl
        have q2 : (([99, 104, 97, 110, 32, 99, 91] ++ digI a) ++ [93, 32, 111, 102, 32]).length = 12 + (digI a).length := by rw [List.length_append, q1]; simp; omega
        have q3 : ((([99, 104, 97, 110, 32, 99, 91] ++ digI a) ++ [93, 32, 111, 102, 32]) ++ digI b).length = 12 + (digI a).length + (digI b).length := by rw [List.length_append, q2]
        have p1 : ([99, 104, 97, 110, 32, 99, 91] : Str).length = 7 := rfl
        have p2 : ([93, 32, 111, 102, 32] : Str).length = 5 := rfl
        have p3 : ([59] : Str).length = 1 := rfl
        simp only [List.cons_append, List.nil_append] at q1 q2 q3
        simp (disch := omega) only [go_sem, ↓cw_block, dsB_of, r1, r2, tm0]
        refine call_to (w12num_spec (n := a) (by omega)) ?_
        intro r5 X5 hv
        refine Hush.out ?_
        obtain ⟨rfl, x5⟩ := hv
        refine ⟨?_⟩
        simp (disch := omega) only [go_sem, ↓cw_block, dsB_of, p1, p2, p3, q1, q2, q3]
        refine call_to (w12num_spec (n := b) (by omega)) ?_
        intro r6 X6 hv
        refine Hush.out ?_
        obtain ⟨rfl, x6⟩ := hv
        have xf := x5.trans x6
        have fin0 : ∀ fits : Bool, fits = decide ((1 ≤ a ∧ a ≤ 3) ∧ (1 ≤ b ∧ b ≤ 8)) → BdQ (((([99, 104, 97, 110, 32, 99, 91] ++ digI a) ++ [93, 32, 111, 102, 32]) ++ digI b) ++ [59]) fits := fun fits hf => bq0 ra rb (by simp) hf
        refine ⟨?_⟩
        by_cases d1 : 1 ≤ a
        rotate_left
        · simp (disch := omega) only [go_sem, ↓cw_block, dsB_of, p1, p2, p3, q1, q2, q3]
          exact fin ⟨((([99, 104, 97, 110, 32, 99, 91] ++ digI a) ++ [93, 32, 111, 102, 32]) ++ digI b) ++ [59], false, xf, fin0 false (by symm; simp; omega), by (simp (disch := omega) only [go_sem, ↓cw_block, dsB_of, rd]) <;> simp <;> omega⟩
        by_cases d2 : a ≤ 3
        rotate_left
        · simp (disch := omega) only [go_sem, ↓cw_block, dsB_of, p1, p2, p3, q1, q2, q3]
          exact fin ⟨((([99, 104, 97, 110, 32, 99, 91] ++ digI a) ++ [93, 32, 111, 102, 32]) ++ digI b) ++ [59], false, xf, fin0 false (by symm; simp; omega), by (simp (disch := omega) only [go_sem, ↓cw_block, dsB_of, rd]) <;> simp <;> omega⟩
        by_cases d3 : 1 ≤ b
        rotate_left
        · simp (disch := omega) only [go_sem, ↓cw_block, dsB_of, p1, p2, p3, q1, q2, q3]
          exact fin ⟨((([99, 104, 97, 110, 32, 99, 91] ++ digI a) ++ [93, 32, 111, 102, 32]) ++ digI b) ++ [59], false, xf, fin0 false (by symm; simp; omega), by (simp (disch := omega) only [go_sem, ↓cw_block, dsB_of, rd]) <;> simp <;> omega⟩
        by_cases d4 : b ≤ 8
        rotate_left
        · simp (disch := omega) only [go_sem, ↓cw_block, dsB_of, p1, p2, p3, q1, q2, q3]
          exact fin ⟨((([99, 104, 97, 110, 32, 99, 91] ++ digI a) ++ [93, 32, 111, 102, 32]) ++ digI b) ++ [59], false, xf, fin0 false (by symm; simp; omega), by (simp (disch := omega) only [go_sem, ↓cw_block, dsB_of, rd]) <;> simp <;> omega⟩
        simp (disch := omega) only [go_sem, ↓cw_block, dsB_of, p1, p2, p3, q1, q2, q3]
        exact fin ⟨((([99, 104, 97, 110, 32, 99, 91] ++ digI a) ++ [93, 32, 111, 102, 32]) ++ digI b) ++ [59], true, xf, fin0 true (by symm; simp; omega), by (simp (disch := omega) only [go_sem, ↓cw_block, dsB_of, rd]) <;> simp <;> omega⟩
      · rw [e1] at tm0
        have q1 : ([118, 97, 114, 32, 120, 32, 111, 102, 32] ++ digI b).length = 9 + (digI b).length := by rw [List.length_append]; rfl
        have q2 : (([118, 97, 114, 32, 120, 32, 111, 102, 32] ++ digI b) ++ [32, 61, 32]).length = 12 + (digI b).length := by rw [List.length_append, q1]; simp; omega
        have q3 : ((([118, 97, 114, 32, 120, 32, 111, 102, 32] ++ digI b) ++ [32, 61, 32]) ++ digI n2).length = 12 + (digI b).length + (digI n2).length := by rw [List.length_append, q2]
        have p1 : ([118, 97, 114, 32, 120, 32, 111, 102, 32] : Str).length = 9 := rfl
        have p2 : ([32, 61, 32] : Str).length = 3 := rfl
        have p3 : ([59] : Str).length = 1 := rfl
        simp only [List.cons_append, List.nil_append] at q1 q2 q3
        obtain ⟨hl', hhl⟩ : ∃ hl', hl' = hldL H1 [⟨H.size, 2, none⟩] := ⟨_, rfl⟩
        have hok : heldOK hl' H1 := by rw [hhl]; exact hld_ok
        have l2 : lookA hl' ⟨H.size, 2, none⟩ = some (iv n2) := by rw [hhl]; exact hld_at k2 (by simp)
        have lz : ∀ a v, lookA hl' a = some v → a.block ∉ ([] : List Nat) := by simp
        simp (disch := omega) only [go_sem, ↓cw_block, dsB_of, r1, r2, tm0]
        refine draw1 (lk [(0, true), (4, false), (5, false), (9, false), (10, false)] (.act 1 (lk [(2, false), (3, false)] (.act 6 (lk [(7, false), (8, false), (11, true), (12, true), (13, true), (14, true), (15, true), (16, true), (17, true), (18, true), (20, false), (21, false)] (.act 19 (lk [(22, true), (23, true), (24, true), (25, true)] .fin) .non)) .non)) .non)) T.mixed hl' hok ?_
        try (simp (disch := omega) only [go_sem, ↓cw_block, dsB_of, r1, r2, k2, l2, p1, p2, p3, q1, q2, q3])
        try refine held_by hok ?_
        try (simp (disch := omega) only [go_sem, ↓cw_block, dsB_of, r1, r2, k2, l2, p1, p2, p3, q1, q2, q3])
        refine call_to (w12num_spec (n := b) (by omega)) ?_
        intro r5 X5 hv
        refine Hush.out ?_
        obtain ⟨rfl, x5⟩ := hv
        have hok5 := hld_fr hok x5 lz
        have k25 := x5.cell' k2 (by simp)
        refine ⟨?_⟩
        try refine held_by hok5 ?_
        try (simp (disch := omega) only [go_sem, ↓cw_block, dsB_of, r2, k25, l2, p1, p2, p3, q1, q2, q3])
        try refine held_by hok5 ?_
        try (simp (disch := omega) only [go_sem, ↓cw_block, dsB_of, r2, k25, l2, p1, p2, p3, q1, q2, q3])
        refine call_to (w12num_spec (n := n2) (by omega)) ?_
        intro r6 X6 hv
        refine Hush.out ?_
        obtain ⟨rfl, x6⟩ := hv
        have xf := x5.trans x6
        have hok6 := hld_fr hok5 x6 lz
        have k26 := x6.cell' k25 (by simp)
        have fin1 : ∀ fits : Bool, fits = decide ((1 ≤ b ∧ b ≤ 8) ∧ trimI n2 b = n2) → BdQ (((([118, 97, 114, 32, 120, 32, 111, 102, 32] ++ digI b) ++ [32, 61, 32]) ++ digI n2) ++ [59]) fits := by
          intro fits hf
          by_cases hneg : n2 < 0
          · refine bq1n (a := b) (b := -n2) rb (by omega) ?_ (by rw [Int.neg_neg]; exact hf)
            rw [digI_neg hneg]; simp
          · exact bq1p (a := b) (b := n2) rb (by omega) (by simp) hf
        refine ⟨?_⟩
        by_cases d1 : 1 ≤ b
        rotate_left
        · try refine held_by hok6 ?_
          try (simp (disch := omega) only [go_sem, ↓cw_block, dsB_of, r2, k26, l2, p1, p2, p3, q1, q2, q3])
          try refine held_by hok6 ?_
          try (simp (disch := omega) only [go_sem, ↓cw_block, dsB_of, r2, k26, l2, p1, p2, p3, q1, q2, q3])
          try refine held_by hok6 ?_
          try (simp (disch := omega) only [go_sem, ↓cw_block, dsB_of, r2, k26, l2, p1, p2, p3, q1, q2, q3])
          exact fin ⟨((([118, 97, 114, 32, 120, 32, 111, 102, 32] ++ digI b) ++ [32, 61, 32]) ++ digI n2) ++ [59], false, xf, fin1 false (by symm; rw [decide_eq_false_iff_not]; omega), by (simp (disch := omega) only [go_sem, ↓cw_block, dsB_of, rd]) <;> simp <;> omega⟩
        by_cases d2 : b ≤ 8
        rotate_left
        · try refine held_by hok6 ?_
          try (simp (disch := omega) only [go_sem, ↓cw_block, dsB_of, r2, k26, l2, p1, p2, p3, q1, q2, q3])
          try refine held_by hok6 ?_
          try (simp (disch := omega) only [go_sem, ↓cw_block, dsB_of, r2, k26, l2, p1, p2, p3, q1, q2, q3])
          try refine held_by hok6 ?_
          try (simp (disch := omega) only [go_sem, ↓cw_block, dsB_of, r2, k26, l2, p1, p2, p3, q1, q2, q3])
          exact fin ⟨((([118, 97, 114, 32, 120, 32, 111, 102, 32] ++ digI b) ++ [32, 61, 32]) ++ digI n2) ++ [59], false, xf, fin1 false (by symm; rw [decide_eq_false_iff_not]; omega), by (simp (disch := omega) only [go_sem, ↓cw_block, dsB_of, rd]) <;> simp <;> omega⟩
        try refine held_by hok6 ?_
        try (simp (disch := omega) only [go_sem, ↓cw_block, dsB_of, r2, k26, l2, p1, p2, p3, q1, q2, q3])
        try refine held_by hok6 ?_
        try (simp (disch := omega) only [go_sem, ↓cw_block, dsB_of, r2, k26, l2, p1, p2, p3, q1, q2, q3])
        refine call_to (r6Trim_spec d1 d2) ?_
        rintro _ _ ⟨rfl, rfl⟩
        by_cases d3 : trimI n2 b = n2
        · have d3' : decide (trimI n2 b = n2) = true := decide_eq_true d3
          try refine held_by hok6 ?_
          try (simp (disch := omega) only [go_sem, ↓cw_block, dsB_of, r2, k26, l2, d3', p1, p2, p3, q1, q2, q3])
          try refine held_by hok6 ?_
          try (simp (disch := omega) only [go_sem, ↓cw_block, dsB_of, r2, k26, l2, d3', p1, p2, p3, q1, q2, q3])
          exact fin ⟨((([118, 97, 114, 32, 120, 32, 111, 102, 32] ++ digI b) ++ [32, 61, 32]) ++ digI n2) ++ [59], true, xf, fin1 true (by symm; rw [decide_eq_true_iff]; exact ⟨⟨d1, d2⟩, d3⟩), by (simp (disch := omega) only [go_sem, ↓cw_block, dsB_of, rd]) <;> simp <;> omega⟩
        · have d3' : decide (trimI n2 b = n2) = false := decide_eq_false d3
          try refine held_by hok6 ?_
          try (simp (disch := omega) only [go_sem, ↓cw_block, dsB_of, r2, k26, l2, d3', p1, p2, p3, q1, q2, q3])
          try refine held_by hok6 ?_
          try (simp (disch := omega) only [go_sem, ↓cw_block, dsB_of, r2, k26, l2, d3', p1, p2, p3, q1, q2, q3])
          exact fin ⟨((([118, 97, 114, 32, 120, 32, 111, 102, 32] ++ digI b) ++ [32, 61, 32]) ++ digI n2) ++ [59], false, xf, fin1 false (by symm; rw [decide_eq_false_iff_not]; exact fun e => d3 e.2), by (simp (disch := omega) only [go_sem, ↓cw_block, dsB_of, rd]) <;> simp <;> omega⟩
      · rw [e1] at tm0
        have q1 : ([112, 114, 111, 99, 32, 112, 32, 42, 32] ++ digI e).length = 9 + (digI e).length := by rw [List.length_append]; rfl
        have p1 : ([112, 114, 111, 99, 32, 112, 32, 42, 32] : Str).length = 9 := rfl
        have p2 : ([32, 123, 32, 125] : Str).length = 4 := rfl
        simp only [List.cons_append, List.nil_append] at q1
        obtain ⟨hl', hhl⟩ : ∃ hl', hl' = hldL H1 [⟨H.size, 3, none⟩] := ⟨_, rfl⟩
        have hok : heldOK hl' H1 := by rw [hhl]; exact hld_ok
        have l3 : lookA hl' ⟨H.size, 3, none⟩ = some (iv n3) := by rw [hhl]; exact hld_at k3 (by simp)
        have lz : ∀ a v, lookA hl' a = some v → a.block ∉ ([] : List Nat) := by simp
        simp (disch := omega) only [go_sem, ↓cw_block, dsB_of, r1, r2, tm0]
        refine draw1 (lk [(0, true), (1, true), (2, true), (6, false), (7, false), (8, false)] (.act 3 (lk [(4, true), (5, true), (9, true), (10, true), (11, true), (12, true), (13, true), (14, true), (15, true)] .fin) .non)) T.mixed hl' hok ?_
        try (simp (disch := omega) only [go_sem, ↓cw_block, dsB_of, r1, r2, k3, l3, p1, p2, q1, he'])
        try refine held_by hok ?_
        try (simp (disch := omega) only [go_sem, ↓cw_block, dsB_of, r1, r2, k3, l3, p1, p2, q1, he'])
        refine call_to (w12num_spec (n := e) (by omega)) ?_
        intro r5 X5 hv
        refine Hush.out ?_
        obtain ⟨rfl, x5⟩ := hv
        have hok5 := hld_fr hok x5 lz
        have k35 := x5.cell' k3 (by simp)
        have fin2 : ∀ fits : Bool, fits = decide (1 ≤ e ∧ e ≤ 4) → BdQ (([112, 114, 111, 99, 32, 112, 32, 42, 32] ++ digI e) ++ [32, 123, 32, 125]) fits := fun fits hf => bq2 re (by simp) hf
        refine ⟨?_⟩
        by_cases d1 : 1 ≤ n3
        rotate_left
        · try refine held_by hok5 ?_
          try (simp (disch := omega) only [go_sem, ↓cw_block, dsB_of, r2, k35, l3, p1, p2, q1])
          try refine held_by hok5 ?_
          try (simp (disch := omega) only [go_sem, ↓cw_block, dsB_of, r2, k35, l3, p1, p2, q1])
          exact fin ⟨([112, 114, 111, 99, 32, 112, 32, 42, 32] ++ digI e) ++ [32, 123, 32, 125], false, x5, fin2 false (by symm; rw [decide_eq_false_iff_not]; omega), by (simp (disch := omega) only [go_sem, ↓cw_block, dsB_of, rd]) <;> simp <;> omega⟩
        by_cases d2 : n3 ≤ 4
        rotate_left
        · try refine held_by hok5 ?_
          try (simp (disch := omega) only [go_sem, ↓cw_block, dsB_of, r2, k35, l3, p1, p2, q1])
          try refine held_by hok5 ?_
          try (simp (disch := omega) only [go_sem, ↓cw_block, dsB_of, r2, k35, l3, p1, p2, q1])
          exact fin ⟨([112, 114, 111, 99, 32, 112, 32, 42, 32] ++ digI e) ++ [32, 123, 32, 125], false, x5, fin2 false (by symm; rw [decide_eq_false_iff_not]; omega), by (simp (disch := omega) only [go_sem, ↓cw_block, dsB_of, rd]) <;> simp <;> omega⟩
        try refine held_by hok5 ?_
        try (simp (disch := omega) only [go_sem, ↓cw_block, dsB_of, r2, k35, l3, p1, p2, q1])
        try refine held_by hok5 ?_
        try (simp (disch := omega) only [go_sem, ↓cw_block, dsB_of, r2, k35, l3, p1, p2, q1])
        exact fin ⟨([112, 114, 111, 99, 32, 112, 32, 42, 32] ++ digI e) ++ [32, 123, 32, 125], true, x5, fin2 true (by symm; rw [decide_eq_true_iff]; omega), by (simp (disch := omega) only [go_sem, ↓cw_block, dsB_of, rd]) <;> simp <;> omega⟩
      · rw [e1] at tm0
        have q1 : ([115, 97, 102, 101, 32] ++ digI b).length = 5 + (digI b).length := by rw [List.length_append]; rfl
        have p1 : ([115, 97, 102, 101, 32] : Str).length = 5 := rfl
        have p2 : ([59] : Str).length = 1 := rfl
        simp only [List.cons_append, List.nil_append] at q1
        simp (disch := omega) only [go_sem, ↓cw_block, dsB_of, r1, r2, tm0]
        refine call_to (w12num_spec (n := b) (by omega)) ?_
        intro r5 X5 hv
        refine Hush.out ?_
        obtain ⟨rfl, x5⟩ := hv
        have fin3 : ∀ fits : Bool, fits = decide (b ≤ 127) → BdQ (([115, 97, 102, 101, 32] ++ digI b) ++ [59]) fits := fun fits hf => bq3 rb (by simp) hf
        refine ⟨?_⟩
        by_cases d1 : b ≤ 127
        · simp (disch := omega) only [go_sem, ↓cw_block, dsB_of, p1, p2, q1]
          exact fin ⟨([115, 97, 102, 101, 32] ++ digI b) ++ [59], true, x5, fin3 true (by symm; rw [decide_eq_true_iff]; exact d1), by (simp (disch := omega) only [go_sem, ↓cw_block, dsB_of, rd]) <;> simp <;> omega⟩
        · simp (disch := omega) only [go_sem, ↓cw_block, dsB_of, p1, p2, q1]
          exact fin ⟨([115, 97, 102, 101, 32] ++ digI b) ++ [59], false, x5, fin3 false (by symm; rw [decide_eq_false_iff_not]; exact d1), by (simp (disch := omega) only [go_sem, ↓cw_block, dsB_of, rd]) <;> simp <;> omega⟩
    · rintro ρ H2 ⟨text, fits, fr2, ⟨l, p, hp, hty, hz⟩, r8, r9, rd⟩
      simp (disch := omega) only [go_sem, ↓cw_block, dsB_of, r8, r9, rd]
      refine call_to (parse_spec hp) ?_
      intro r5 H5 hv
      refine Hush.out ?_
      obtain ⟨v1, rfl, f5, nl1⟩ := hv
      have nl1' := nl1.grow (Fr.push (F := []) (o := .cells #[iv 0, iv 0] 27))
      obtain ⟨B1, hB1⟩ : ∃ B, B = H5.push (.cells #[iv 0, iv 0] 27) := ⟨_, rfl⟩
      have g5 : Fr [] H5 B1 := by rw [hB1]; exact Fr.push
      have d5 : Blk B1 H5.size 27 [iv 0, iv 0] := by rw [hB1]; exact Blk.new rfl
      rw [← hB1] at nl1'
      refine ⟨?_⟩
      simp (disch := omega) only [go_sem, ↓cw_block, dsB_of, fltV, r8, r9, rd]
      rw [← hB1]
      refine call_to (tyCheck_spec nl1' hz) ?_
      intro r6 H6 hv
      refine Hush.out ?_
      obtain ⟨f6, rfl⟩ := hv
      rw [hty]
      have q1 := (f6.blk d5 (by simp)).cell 0
      simp only [List.getElem?_cons_zero] at q1
      have hfr : Fr [] H H6 := (((f01.trans fr2).trans f5).trans g5).trans f6
      cases fits
      · have q2 := (Fr.push (F := []) (o := .cells #[iv 22, iv p] 27)).cell' q1 (by simp)
        refine ⟨?_⟩
        simp only [Bool.false_eq_true, if_false]
        simp (disch := omega) only [go_sem, ↓cw_block, dsB_of, fltV, r8, r9, rd, q1, q2]
        exact fin ⟨rfl, hfr.trans Fr.push⟩
      · have q2 := (Fr.push (F := []) (o := .cells #[iv 0, iv p] 27)).cell' q1 (by simp)
        refine ⟨?_⟩
        simp only [if_true]
        simp (disch := omega) only [go_sem, ↓cw_block, dsB_of, fltV, r8, r9, rd, q1, q2]
        exact fin ⟨rfl, hfr.trans Fr.push⟩
end
end Go.Proofs.Ythbbeliibdhjmaa

/- An argument that is an array of four numbers, as the rows lay it. -/
namespace Go.HL
open Go.ChangeShapes Go.WideShapes Go.ChangeAt Go.RowKit
section
variable {H : Type} {enc : TypeId × Value → H} {P : Program} {W : World}
theorem TR.array {t e : TypeId} {n : Nat} {cs : List Value} (ht : P.underlying t = some (.array n e)) (h : TR enc P W t cs) :
    cs.length = P.cellsOf t ∧ ∀ i, i < n → TR enc P W e ((cs.drop (i * P.cellsOf e)).take (P.cellsOf e)) := by
  obtain ⟨fuel, x, h⟩ := h
  cases fuel with
  | zero => simp [DataW.trod] at h
  | succ fuel =>
    unfold DataW.trod at h
    rw [ht] at h
    split at h <;> first | (simp at *; done) | skip
    rename_i n' e' hfs
    simp only [Option.some.injEq, TypeDesc.array.injEq] at hfs
    obtain ⟨rfl, rfl⟩ := hfs
    split at h
    · rename_i h1
      simp only [Option.map_eq_some_iff] at h
      obtain ⟨y, hy, _⟩ := h
      refine ⟨h1, fun i hi => ?_⟩
      obtain ⟨z, hz, _⟩ := (omapM_some hy).2 i i (by simp [hi])
      exact ⟨fuel, z, hz⟩
    · simp at h
end
end Go.HL
namespace Go.Proofs.Ythbbeliibdhjmaa
open Go.ChangeShapes Go.WideShapes Go.ChangeAt Go.RowKit Go.HL
set_option maxRecDepth 100000
theorem arg_arr4 {H : Type} {enc : TypeId × Value → H} {W : World} {r : Reach} {b0 : Nat} {v : Value} {d : DataW H} {ps : List MemPlace}
    (hval : Value.okWide Try.prog W r b0 35 v) (hd : DataW.Trod enc Try.prog W 0 (fun _ => true) true 35 v d ps) : ∃ n0 n1 n2 n3, v = .agg #[iv n0, iv n1, iv n2, iv n3] := by
  have hu := Try.underlying35
  have ht := Go.HL.TR.of hd
  unfold Value.okWide at hval
  rw [hu] at hval
  obtain ⟨cs, rfl, hsz, -⟩ := hval
  have s0 : Try.prog.cellsOf 3 = 1 := by kernel_rfl
  have s4 : Try.prog.cellsOf 35 = 4 := by kernel_rfl
  obtain ⟨h1, h2⟩ := Go.HL.TR.array hu ht
  rw [s4] at h1
  obtain ⟨l⟩ := cs
  have hl : (Value.agg ⟨l⟩).cells.toList = l := rfl
  rw [hl] at h1 h2
  match l, h1 with
  | [x0, x1, x2, x3], _ =>
    have t0 := h2 0 (by omega)
    have t1 := h2 1 (by omega)
    have t2 := h2 2 (by omega)
    have t3 := h2 3 (by omega)
    simp only [s0, Nat.zero_mul, Nat.one_mul, Nat.mul_one, List.drop_zero, List.drop_succ_cons, List.take_succ_cons, List.take_zero] at t0 t1 t2 t3
    obtain ⟨n0, e0, _⟩ := Go.HL.TR.int (k := .i64) Try.underlying3 t0
    obtain ⟨n1, e1, _⟩ := Go.HL.TR.int (k := .i64) Try.underlying3 t1
    obtain ⟨n2, e2, _⟩ := Go.HL.TR.int (k := .i64) Try.underlying3 t2
    obtain ⟨n3, e3, _⟩ := Go.HL.TR.int (k := .i64) Try.underlying3 t3
    simp only [List.cons.injEq, and_true] at e0 e1 e2 e3
    subst e0 e1 e2 e3
    exact ⟨n0, n1, n2, n3, rfl⟩
end Go.Proofs.Ythbbeliibdhjmaa

/- The law TypingBounds: its parts. -/

/- Proved: for every input the law TypingBounds returns true, and its arguments read as they did. No condition. -/
namespace Go.Proofs.Ythbbeliibdhjmaa.typingBounds
open Go.ChangeShapes Go.WideShapes Go.ChangeAt Go.RowKit Go.HL
set_option linter.unusedVariables false

theorem own : ownKnob Try.prog.godebug = none := by kernel_rfl
theorem laidOut : laidOutB Try.prog = true := by kernel_rfl

set_option maxRecDepth 100000 in
theorem lifted (os : Os) (started : os.Started) (H : Type) (enc : TypeId × Value → H) :
    ReturnsInHanded {} Try.checked os 5 .any (Rows.typingBoundsSpec.pre6 enc Try.prog Try.f5 Rows.typingBoundsRow.domain false) (Rows.typingBoundsSpec.post enc Try.prog Try.f5 false true false false) := by
  refine returnsInHanded_of_change (C := Try.checked) own started (by kernel_rfl) Try.func5
    (ChangeSpec.witness6 (enc := enc) (C := Try.checked) false ⟨#[], #[.agg #[.int .i64 0, .int .i64 0, .int .i64 0, .int .i64 0], .int .u8 0], []⟩ 8 (by kernel_rfl) (by kernel_rfl) (by kernel_rfl) (by kernel_rfl)) ?_
  intro W base args ds gs before hval0 hW _ _
  have hval : ∀ (j : Nat) t v, Try.f5.params[j]? = some t → args[j]? = some v → Value.okWide Try.prog W .any base t v := hval0
  have hW' := hW
  obtain ⟨p, q, hA0, hV, rfl, hfz, hnd⟩ := hW
  have hA : DataW.TrodAll enc Try.prog W 0 (fun _ => true) true Try.f5.params.toList args.toList ds p := hA0
  rw [Try.params5] at hA hval
  obtain ⟨v0, v1, d0, d1, p0, p1, rfl, rfl, rfl, t0, t1⟩ := trodAll_two hA
  obtain ⟨rfl, rfl⟩ := trodVars_none hV
  obtain ⟨x0, x1, x2, x3, rfl⟩ := arg_arr4 (hval 0 35 v0 rfl rfl) t0
  obtain ⟨m1, rfl, rfl, rfl, wm1⟩ := open_int Try.underlying5 (hval 1 5 v1 rfl rfl) t1
  have h1 : 0 ≤ m1 ∧ m1 ≤ 255 := by simpa [Lit.wf, IntKind.min, IntKind.max, IntKind.signed, IntKind.bits] using wm1
  have hcall := hcalls_of_callF Try.func5 rfl (by decide) (typingBounds_spec (H := W.heap) (n0 := x0) (n1 := x1) (n2 := x2) (n3 := x3) h1)
  refine (calls_of_hcalls hcall (R := fun W' => Below W.heap.size W W') (fun W' hb => hb)).mono ?_
  rintro e W' ⟨v, rfl, rfl, hb⟩
  exact ⟨_, rfl, law_post laidOut (by rw [Try.params5]; intro t ht; simp at ht; rcases ht with rfl | rfl <;> exact ⟨by kernel_rfl, of_decide_eq_true (by kernel_rfl)⟩) (tb := 4) (by kernel_rfl) Try.underlying4 rfl rfl rfl rfl hW' hb⟩

theorem proved : Rows.TypingBoundsSaid :=
  OpenClaim.holds_of_wide 5 Try.f5 rfl rfl rfl rfl rfl rfl rfl ⟨rfl, rfl, rfl, rfl, rfl⟩ rfl rfl rfl rfl rfl (by kernel_rfl) Try.func5 (by kernel_rfl)
    (of_decide_eq_true (by kernel_rfl)) (by unfold Func.isWrapper; first | (rw [if_pos (by decide +kernel)]; kernel_rfl) | (rw [if_neg (by decide +kernel)]; exact ⟨rfl, rfl⟩))
    (fun os started H enc _ => lifted os started H enc)
#print axioms proved
end Go.Proofs.Ythbbeliibdhjmaa.typingBounds
