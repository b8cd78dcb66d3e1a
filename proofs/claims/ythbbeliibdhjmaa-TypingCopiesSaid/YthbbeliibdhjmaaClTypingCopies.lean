/- Proved: for every input the law TypingCopies returns true, and its arguments read as they did. No condition. -/
import Derived.Test.YthbbeliibdhjmaaMXA
import Derived.Test.YthbbeliibdhjmaaMX6
import Derived.Test.YthbbeliibdhjmaaMX3
/- The laws on numbers: what is read and checked, worked out. -/
namespace Go.Proofs.Ythbbeliibdhjmaa
open Go.HL
set_option maxRecDepth 10000
set_option linter.unusedSimpArgs false
set_option linter.unusedVariables false

def szN (n : Nd) : Bool := decide (n.words.length ≤ 1000) && (decide (n.nums.length ≤ 1000) && (decide (n.kids.length ≤ 1000) && n.words.all fun w => decide (w.length ≤ 1000)))
def szB (l : List Nd) : Bool := decide (l.length ≤ 1000) && l.all szN
theorem sz_of {l : List Nd} (h : szB l = true) : Sz l := by
  unfold szB at h
  simp only [Bool.and_eq_true, decide_eq_true_eq, List.all_eq_true] at h
  have key : ∀ (i : Nat) n, l[i]? = some n → szN n = true := fun i n hi => h.2 n (List.mem_of_getElem? hi)
  have key' : ∀ (i : Nat) n, l[i]? = some n → n.words.length ≤ 1000 ∧ n.nums.length ≤ 1000 ∧ n.kids.length ≤ 1000 ∧ ∀ w ∈ n.words, w.length ≤ 1000 := by
    intro i n hi
    have := key i n hi
    unfold szN at this
    simpa only [Bool.and_eq_true, decide_eq_true_eq, List.all_eq_true] using this
  exact ⟨by omega, fun i n hi => by have := key' i n hi; omega, fun i n hi => by have := key' i n hi; omega, fun i n hi => by have := key' i n hi; omega, fun i n hi w hw => by have := (key' i n hi).2.2.2 w hw; omega⟩
/-- A text read: its fault, and what is wrong with its numbers. -/
def tpM (n : Nat) (s : Str) : Option (Flt × Flt × Bool) := (parseM n s).map fun r => (r.2, typM r.1, szB r.1)
theorem tp_open {n : Nat} {s : Str} {f g : Flt} (h : tpM n s = some (f, g, true)) : ∃ l, parseM n s = some (l, f) ∧ typM l = g ∧ Sz l := by
  unfold tpM at h
  rw [Option.map_eq_some_iff] at h
  obtain ⟨⟨l, f'⟩, h1, h2⟩ := h
  simp only [Prod.mk.injEq] at h2
  obtain ⟨rfl, h3, h4⟩ := h2
  exact ⟨l, h1, h3, sz_of h4⟩
theorem taw1 : tpM 60 [118, 97, 114, 32, 120, 32, 111, 102, 32, 57, 59] = some (⟨0, 0⟩, ⟨22, 0⟩, true) := by decide +kernel
theorem bin_iface_nil {P : Program} {H : Heap} {t : TypeId} {xo : Operand} {c : Value} {ms : Array (String × TypeId)} (hu : P.underlying t = some (.interface ms)) : binV P (full H) .eql t xo (.const c) .nilIface .nilIface = some (.bool true) := by
  show qrun P (do eqGuard .eql t xo (.const c) .nilIface .nilIface; binOp .eql t .nilIface .nilIface) H = _
  have g : qrun P (eqGuard .eql t xo (.const c) .nilIface .nilIface) H = some () := by
    unfold eqGuard
    cases xo <;> rfl
  rw [qrun_bind', g, Option.bind_some]
  show qrun P (do pure (Value.bool (← Op.equal t .nilIface .nilIface))) H = _
  have e : qrun P (Op.equal t .nilIface .nilIface) H = some true := by
    unfold Op.equal Op.maxDepth Op.equalIn
    rw [qrun_bind', qrun_underlying hu, Option.bind_some]
    rfl
  rw [qrun_bind', e]
  rfl
section
variable {H : Heap}
theorem tyLocate_spec {s : Str} {p : Int} : CallF Try.prog 37 [sv s, .agg #[iv 0, iv p]] H (fun r H' => Fr [] H H' ∧ r = .nilIface) NoP := by
  obtain ⟨A, hA⟩ : ∃ A, A = H.push (.cells #[iv 0, iv p] 27) := ⟨_, rfl⟩
  have f0 : Fr [] H A := by rw [hA]; exact Fr.push
  have bA : Blk A H.size 27 [iv 0, iv p] := by rw [hA]; exact Blk.new rfl
  have k0 := bA.cell 0
  simp only [List.getElem?_cons_zero] at k0
  refine callF_of Try.func37 rfl Try.ntmps37 Try.results37 (by decide) rfl ?_
  simp (disch := omega) only [go_sem, ↓cw_block, dsB_of]
  rw [← hA]
  try (simp (disch := omega) only [go_sem, ↓cw_block, dsB_of, k0])
  exact fin ⟨f0, rfl⟩
theorem w12awake_spec : CallF Try.prog 19 [] H (fun r H' => r = .bool true ∧ Fr [] H H') NoP := by
  obtain ⟨l1, p1, s1, z1⟩ := tp_open taw1
  refine callF_of Try.func19 rfl Try.ntmps19 Try.results19 (by decide) rfl ?_
  simp (disch := omega) only [go_sem, ↓cw_block, dsB_of]
  refine call_to (parse_spec p1) ?_
  intro r1 H1 hv
  refine Hush.out ?_
  obtain ⟨v1, rfl, f1, nl1⟩ := hv
  refine ⟨?_⟩
  simp (disch := omega) only [go_sem, ↓cw_block, dsB_of, fltV]
  refine call_to (tyCheck_spec (nl1.grow Fr.push) z1) ?_
  intro r3 H3 hv
  refine Hush.out ?_
  obtain ⟨f3, rfl⟩ := hv
  rw [s1]
  refine ⟨?_⟩
  simp (disch := omega) only [go_sem, ↓cw_block, dsB_of, fltV]
  refine call_to (tyLocate_spec (s := [])) ?_
  intro r4 H4 hv
  refine Hush.out ?_
  obtain ⟨f4, rfl⟩ := hv
  refine ⟨?_⟩
  have hbi := @bin_iface_nil Try.prog H4 76 (.tmp 15) .nilIface _ Try.underlying76
  simp (disch := omega) only [go_sem, ↓cw_block, dsB_of, hbi]
  exact fin ⟨rfl, ((((f1.trans Fr.push).trans f3).trans Fr.push).trans f4)⟩
end
end Go.Proofs.Ythbbeliibdhjmaa

/- The laws on numbers: atomics. -/
namespace Go.Proofs.Ythbbeliibdhjmaa
open Go.HL
set_option maxRecDepth 10000
set_option linter.unusedSimpArgs false
set_option linter.unusedVariables false

theorem rem_rng (m : Int) (k : Int) (h : 0 < k) : 0 ≤ m % k ∧ m % k < k := ⟨Int.emod_nonneg m (by omega), Int.emod_lt_of_pos m h⟩
def opS : Nat → Str
  | 0 => []
  | i + 1 => opS i ++ [105, 102, 32, 49, 32, 123, 32]
def enS : Nat → Str
  | 0 => []
  | i + 1 => enS i ++ [125, 32]
theorem opS_len : ∀ i, (opS i).length = 7 * i
  | 0 => rfl
  | i + 1 => by simp [opS, opS_len i]; omega
theorem enS_len : ∀ i, (enS i).length = 2 * i
  | 0 => rfl
  | i + 1 => by simp [enS, enS_len i]; omega
def atS0 (k : Nat) : Str := ((([112, 114, 111, 99, 32, 112, 32, 123, 32, 97, 116, 111, 109, 105, 99, 32, 123, 32, 115, 107, 105, 112, 59, 32, 125, 32] ++ opS k) ++ [97, 116, 111, 109, 105, 99, 32, 123, 32, 115, 107, 105, 112, 59, 32, 125, 32]) ++ enS k) ++ [125]
def atS1 (k : Nat) : Str := ((([112, 114, 111, 99, 32, 112, 32, 123, 32, 97, 116, 111, 109, 105, 99, 32, 123, 32] ++ opS k) ++ [97, 116, 111, 109, 105, 99, 32, 123, 32, 115, 107, 105, 112, 59, 32, 125, 32]) ++ enS k) ++ [125, 32, 125]
theorem at0 : ∀ k, k < 5 → tpM 400 (atS0 k) = some (⟨0, 0⟩, ⟨0, 0⟩, true) := by decide +kernel
theorem at1 : ∀ k, k < 5 → tpM 400 (atS1 k) = some (⟨0, 0⟩, ⟨21, ((18 + 7 * k : Nat) : Int)⟩, true) := by decide +kernel
section
variable {H : Heap}
set_option maxHeartbeats 4000000 in
theorem typingAtomics_spec {m0 : Int} {w : Bool} (h0 : 0 ≤ m0 ∧ m0 ≤ 255) : CallF Try.prog 7 [.int .u8 m0, .bool w] H (fun r H' => r = .bool true ∧ Fr [] H H') NoP := by
  have c0 := rem_rng m0 5 (by omega)
  have w0 : IntKind.i64.wrap m0 = m0 := IntWalk.i64_in _ (by omega)
  have tm : m0.tmod 5 = m0 % 5 := Int.tmod_eq_emod_of_nonneg (by omega)
  obtain ⟨k, hk⟩ : ∃ k : Nat, m0 % 5 = (k : Int) := ⟨(m0 % 5).toNat, by omega⟩
  have hk5 : k < 5 := by omega
  rw [hk] at tm
  refine callF_of Try.func7 rfl Try.ntmps7 Try.results7 (by decide) rfl ?_
  simp (disch := omega) only [go_sem, ↓cw_block, dsB_of]
  refine call_to w12awake_spec ?_
  intro r0 H0 hv
  refine Hush.out ?_
  obtain ⟨rfl, f0⟩ := hv
  refine ⟨?_⟩
  simp (disch := omega) only [go_sem, ↓cw_block, dsB_of, w0, tm, hk]
  refine loop_by (fun m ρ H2 => ∃ i : Nat, m = k - i ∧ i ≤ k ∧ H0 = H2 ∧ (ρ.get 1 = .bool w ∧ ρ.get 5 = iv k ∧ ρ.get 6 = sv (opS i) ∧ ρ.get 7 = sv (enS i) ∧ ρ.get 8 = iv i ∧ ρ.ds = [])) (k := k) ?_ ?_
  · exact ⟨0, rfl, by omega, rfl, by (simp (disch := omega) only [go_sem, ↓cw_block, dsB_of, hk]) <;> simp [opS, enS]⟩
  · rintro m ρ _ ⟨i, rfl, hi, rfl, r1, r5, r6, r7, r8, rd⟩
    have hxi : (i : Int) + 1 = ((i + 1 : Nat) : Int) := by omega
    have L0 : ([112, 114, 111, 99, 32, 112, 32, 123, 32, 97, 116, 111, 109, 105, 99, 32, 123, 32, 115, 107, 105, 112, 59, 32, 125, 32] : Str).length = 26 := rfl
    have L1 : ([97, 116, 111, 109, 105, 99, 32, 123, 32, 115, 107, 105, 112, 59, 32, 125, 32] : Str).length = 17 := rfl
    have L2 : ([125] : Str).length = 1 := rfl
    have L3 : ([112, 114, 111, 99, 32, 112, 32, 123, 32, 97, 116, 111, 109, 105, 99, 32, 123, 32] : Str).length = 18 := rfl
    have L4 : ([125, 32, 125] : Str).length = 3 := rfl
    have L5 : ([105, 102, 32, 49, 32, 123, 32] : Str).length = 7 := rfl
    have L6 : ([125, 32] : Str).length = 2 := rfl
    have o1 := opS_len i
    have o2 := enS_len i
    by_cases hin : i < k
    · simp (disch := omega) only [go_sem, ↓cw_block, dsB_of, r1, r5, r6, r7, r8, rd, o1, o2, L0, L1, L2, L3, L4, L5, L6]
      exact fin ⟨k - (i + 1), by omega, i + 1, rfl, by omega, rfl, by (simp (disch := omega) only [go_sem, ↓cw_block, dsB_of, r1, r5, r6, r7, r8, rd, hxi]) <;> simp [opS, enS]⟩
    obtain rfl : i = k := by omega
    have a1 : ([112, 114, 111, 99, 32, 112, 32, 123, 32, 97, 116, 111, 109, 105, 99, 32, 123, 32, 115, 107, 105, 112, 59, 32, 125, 32] ++ opS i).length = 26 + 7 * i := by rw [List.length_append, o1]; rfl
    have a2 : (([112, 114, 111, 99, 32, 112, 32, 123, 32, 97, 116, 111, 109, 105, 99, 32, 123, 32, 115, 107, 105, 112, 59, 32, 125, 32] ++ opS i) ++ [97, 116, 111, 109, 105, 99, 32, 123, 32, 115, 107, 105, 112, 59, 32, 125, 32]).length = 43 + 7 * i := by rw [List.length_append, a1]; simp; omega
    have a3 : ((([112, 114, 111, 99, 32, 112, 32, 123, 32, 97, 116, 111, 109, 105, 99, 32, 123, 32, 115, 107, 105, 112, 59, 32, 125, 32] ++ opS i) ++ [97, 116, 111, 109, 105, 99, 32, 123, 32, 115, 107, 105, 112, 59, 32, 125, 32]) ++ enS i).length = 43 + 9 * i := by rw [List.length_append, a2, o2]; omega
    have b1 : ([112, 114, 111, 99, 32, 112, 32, 123, 32, 97, 116, 111, 109, 105, 99, 32, 123, 32] ++ opS i).length = 18 + 7 * i := by rw [List.length_append, o1]; rfl
    have b2 : (([112, 114, 111, 99, 32, 112, 32, 123, 32, 97, 116, 111, 109, 105, 99, 32, 123, 32] ++ opS i) ++ [97, 116, 111, 109, 105, 99, 32, 123, 32, 115, 107, 105, 112, 59, 32, 125, 32]).length = 35 + 7 * i := by rw [List.length_append, b1]; simp; omega
    have b3 : ((([112, 114, 111, 99, 32, 112, 32, 123, 32, 97, 116, 111, 109, 105, 99, 32, 123, 32] ++ opS i) ++ [97, 116, 111, 109, 105, 99, 32, 123, 32, 115, 107, 105, 112, 59, 32, 125, 32]) ++ enS i).length = 35 + 9 * i := by rw [List.length_append, b2, o2]; omega
    simp only [List.cons_append, List.nil_append] at a1 a2 a3 b1 b2 b3
    cases w
    · obtain ⟨l1, p1, s1, z1⟩ := tp_open (at0 i hk5)
      unfold atS0 at p1
      simp only [List.cons_append, List.nil_append] at p1
      simp (disch := omega) only [go_sem, ↓cw_block, dsB_of, r1, r5, r6, r7, r8, rd, o1, o2, a1, a2, a3, L0, L1, L2, L3, L4, L5, L6]
      refine call_to (parse_spec p1) ?_
      intro r1' H1 hv
      refine Hush.out ?_
      obtain ⟨v1, rfl, f1, nl1⟩ := hv
      have nl1' := nl1.grow (Fr.push (F := []) (o := .cells #[iv 0, iv 0] 27))
      obtain ⟨B1, hB1⟩ : ∃ B, B = H1.push (.cells #[iv 0, iv 0] 27) := ⟨_, rfl⟩
      have g1 : Fr [] H1 B1 := by rw [hB1]; exact Fr.push
      have d1 : Blk B1 H1.size 27 [iv 0, iv 0] := by rw [hB1]; exact Blk.new rfl
      rw [← hB1] at nl1'
      refine ⟨?_⟩
      simp (disch := omega) only [go_sem, ↓cw_block, dsB_of, fltV, r1, r5, r6, r7, r8, rd]
      rw [← hB1]
      refine call_to (tyCheck_spec nl1' z1) ?_
      intro r3 H3 hv
      refine Hush.out ?_
      obtain ⟨f3, rfl⟩ := hv
      rw [s1]
      have q1 := (f3.blk d1 (by simp)).cell 0
      simp only [List.getElem?_cons_zero] at q1
      have q1' := (Fr.push (F := []) (o := .cells #[iv 0, iv 0] 27)).cell' q1 (by simp)
      refine ⟨?_⟩
      simp (disch := omega) only [go_sem, ↓cw_block, dsB_of, fltV, r1, r5, r6, r7, r8, rd, q1, q1']
      exact fin ⟨rfl, ((((f0.trans f1).trans g1).trans f3).trans Fr.push)⟩
    · obtain ⟨l1, p1, s1, z1⟩ := tp_open (at1 i hk5)
      unfold atS1 at p1
      simp only [List.cons_append, List.nil_append] at p1
      simp (disch := omega) only [go_sem, ↓cw_block, dsB_of, r1, r5, r6, r7, r8, rd, o1, o2, a1, a2, a3, b1, b2, b3, L0, L1, L2, L3, L4, L5, L6]
      refine call_to (parse_spec p1) ?_
      intro r1' H1 hv
      refine Hush.out ?_
      obtain ⟨v1, rfl, f1, nl1⟩ := hv
      have nl1' := nl1.grow (Fr.push (F := []) (o := .cells #[iv 0, iv 0] 27))
      obtain ⟨B1, hB1⟩ : ∃ B, B = H1.push (.cells #[iv 0, iv 0] 27) := ⟨_, rfl⟩
      have g1 : Fr [] H1 B1 := by rw [hB1]; exact Fr.push
      have d1 : Blk B1 H1.size 27 [iv 0, iv 0] := by rw [hB1]; exact Blk.new rfl
      rw [← hB1] at nl1'
      refine ⟨?_⟩
      simp (disch := omega) only [go_sem, ↓cw_block, dsB_of, fltV, r1, r5, r6, r7, r8, rd]
      rw [← hB1]
      refine call_to (tyCheck_spec nl1' z1) ?_
      intro r3 H3 hv
      refine Hush.out ?_
      obtain ⟨f3, rfl⟩ := hv
      rw [s1]
      have q1 := (f3.blk d1 (by simp)).cell 0
      simp only [List.getElem?_cons_zero] at q1
      have q1' := (Fr.push (F := []) (o := .cells #[iv 21, iv ((18 + 7 * i : Nat) : Int)] 27)).cell' q1 (by simp)
      refine ⟨?_⟩
      simp (disch := omega) only [go_sem, ↓cw_block, dsB_of, fltV, r1, r5, r6, r7, r8, rd, q1, q1']
      exact fin ⟨rfl, ((((f0.trans f1).trans g1).trans f3).trans Fr.push)⟩
end
end Go.Proofs.Ythbbeliibdhjmaa

/- A number's text (the document's Digits). -/
namespace Go.HL
/-- One byte as a text. -/
theorem conv_byte {P : Program} {H : Heap} {s d e b o c : Nat} {n : Int} (hs : P.underlying s = some (.slice e)) (he : P.underlying e = some (.int .u8)) (hd : P.underlying d = some .string) (hc : cellH H ⟨b, o, none⟩ = some (.int .u8 n)) :
    convV P (full H) s d (.slice (some ⟨b, o, none⟩) 1 c) = some (.string (bs [UInt8.ofNat n.toNat])) := by
  show qrun P (convert s d (.slice (some ⟨b, o, none⟩) 1 c)) H = _
  unfold convert
  rw [qrun_bind', qrun_underlying hs, Option.bind_some, qrun_bind', qrun_underlying hd, Option.bind_some]
  show qrun P (do match ← underlying e with
    | .int .u8 => Conv.bytesToString (.slice (some ⟨b, o, none⟩) 1 c)
    | .int .i32 => Conv.runesToString (.slice (some ⟨b, o, none⟩) 1 c)
    | _ => stuck "Convert: a slice of what to string?") H = _
  rw [qrun_bind', qrun_underlying he, Option.bind_some]
  show qrun P (Conv.bytesToString (.slice (some ⟨b, o, none⟩) 1 c)) H = _
  unfold Conv.bytesToString
  simp only [qrun_bind']
  have hl : qrun P (loadCells ⟨b, o, none⟩ 1) H = some #[.int .u8 n] := by
    unfold loadCells
    have := qrun_loadCellsFrom (P := P) (H := H) (a := ⟨b, o, none⟩) 1 0 #[] [.int .u8 n] (by simp [cellsH, Addr.add, hc])
    simpa using this
  rw [hl, Option.bind_some]
  rfl
end Go.HL
namespace Go.Proofs.Ythbbeliibdhjmaa
open Go.HL
set_option maxRecDepth 10000
set_option linter.unusedSimpArgs false
set_option linter.unusedVariables false

def dig1 (n : Nat) : UInt8 := UInt8.ofNat (48 + n)
def digF : Nat → Nat → Str
  | 0, _ => []
  | f + 1, n => if n < 10 then [dig1 n] else digF f (n / 10) ++ [dig1 (n % 10)]
/-- A number's text. -/
def digI (n : Int) : Str := if n < 0 then 45 :: digF 7 (-n).toNat else digF 7 n.toNat
theorem digF_len : ∀ (f n : Nat), (digF f n).length ≤ f
  | 0, n => by simp [digF]
  | f + 1, n => by
    unfold digF
    split
    · simp
    · have := digF_len f (n / 10); simp; omega
theorem digF_len2 : ∀ (f n k : Nat), n < 10 ^ k → 1 ≤ k → (digF f n).length ≤ k
  | 0, n, k, _, _ => by simp [digF]
  | f + 1, n, k, h, hk => by
    unfold digF
    split
    · simp; omega
    · rename_i h10
      have h2 : 2 ≤ k := by
        rcases Nat.lt_or_ge 1 k with h | h
        · omega
        · have : k = 1 := by omega
          subst this; omega
      have hp : 10 ^ k = 10 ^ (k - 1) * 10 := by
        rw [← Nat.pow_succ]; congr 1; omega
      have := digF_len2 f (n / 10) (k - 1) (by omega) (by omega)
      simp; omega
theorem digF_pos {f n : Nat} : 0 < (digF (f + 1) n).length := by
  unfold digF
  split <;> simp
theorem dig1_toNat {n : Nat} (h : n < 10) : (dig1 n).toNat = 48 + n := by
  unfold dig1
  rw [UInt8.toNat_ofNat']
  omega
theorem digF_all : ∀ (f n : Nat), (digF f n).all digitM = true
  | 0, n => by simp [digF]
  | f + 1, n => by
    unfold digF
    split
    · rename_i h
      simp [digitM, dig1_toNat h]; omega
    · rw [List.all_append, digF_all f]
      have := dig1_toNat (n := n % 10) (by omega)
      simp [digitM, this]; omega
theorem digF_val : ∀ (f n : Nat), n < 10 ^ f → valM (digF f n) = n
  | 0, n, h => by
    have : n = 0 := by simpa using h
    subst this; rfl
  | f + 1, n, h => by
    unfold digF
    split
    · rename_i h10
      simp [valM, dig1_toNat h10]; omega
    · have ih := digF_val f (n / 10) (by rw [Nat.pow_succ] at h; omega)
      unfold valM at ih ⊢
      rw [List.foldl_append, ih]
      simp [dig1_toNat (n := n % 10) (by omega)]
      omega
section
variable {H : Heap}
theorem r1Digits_pos : ∀ (f : Nat) {H : Heap} {n : Nat}, n < 10 ^ (f + 1) → f ≤ 10 → CallF Try.prog 38 [iv n] H (fun r H' => r = sv (digF (f + 1) n) ∧ Fr [] H H') NoP := by
  have one : ∀ {H : Heap} {n : Nat}, n < 10 → CallF Try.prog 38 [iv n] H (fun r H' => r = sv [dig1 n] ∧ Fr [] H H') NoP := by
    intro H n hn
    have hwr : IntKind.u8.wrap (48 + (n : Int)) = 48 + (n : Int) := by simp [IntKind.wrap, IntKind.bits, IntKind.signed]; omega
    have hbt : (48 + (n : Int)).toNat = 48 + n := by omega
    have hcv : convV Try.prog (full (H.push (.cells #[.int .u8 (48 + (n : Int))] 5))) 41 9 (.slice (some ⟨H.size, 0, none⟩) 1 1) = some (.string (bs [dig1 n])) := by
      have := conv_byte (P := Try.prog) (H := H.push (.cells #[.int .u8 (48 + (n : Int))] 5)) (b := H.size) (o := 0) (c := 1) Try.underlying41 Try.underlying5 Try.underlying9 ((Blk.new rfl).cell 0)
      rw [hbt] at this
      exact this
    refine callF_of Try.func38 rfl Try.ntmps38 Try.results38 (by decide) rfl ?_
    simp (disch := omega) only [go_sem, ↓cw_block, dsB_of, hwr, hcv]
    exact fin ⟨rfl, Fr.push⟩
  intro f
  induction f with
  | zero =>
    intro H n hn _
    have h10 : n < 10 := by simpa using hn
    have e : digF (0 + 1) n = [dig1 n] := by unfold digF; rw [if_pos h10]
    rw [e]
    exact one h10
  | succ f IH =>
    intro H n hn hf
    by_cases h10 : n < 10
    · have e : digF (f + 1 + 1) n = [dig1 n] := by unfold digF; rw [if_pos h10]
      rw [e]
      exact one h10
    have e : digF (f + 1 + 1) n = digF (f + 1) (n / 10) ++ [dig1 (n % 10)] := by
      have : ∀ g, digF (g + 1) n = if n < 10 then [dig1 n] else digF g (n / 10) ++ [dig1 (n % 10)] := fun _ => rfl
      rw [this, if_neg h10]
    rw [e]
    have hp : (10 : Nat) ^ (f + 1 + 1) ≤ 10 ^ 11 := Nat.pow_le_pow_right (by omega) (by omega)
    have hd : (n : Int).tdiv 10 = ((n / 10 : Nat) : Int) := by
      rw [Int.tdiv_eq_ediv_of_nonneg (by omega)]; omega
    have hm : (n : Int).tmod 10 = ((n % 10 : Nat) : Int) := by
      rw [Int.tmod_eq_emod_of_nonneg (by omega)]; omega
    have hle := digF_len (f + 1) (n / 10)
    have hn1 : n / 10 < 10 ^ (f + 1) := by rw [Nat.pow_succ] at hn; omega
    refine callF_of Try.func38 rfl Try.ntmps38 Try.results38 (by decide) rfl ?_
    simp (disch := omega) only [go_sem, ↓cw_block, dsB_of, hd]
    refine call_to (IH hn1 (by omega)) ?_
    intro r1 H1 hv
    refine Hush.out ?_
    obtain ⟨rfl, f1⟩ := hv
    refine ⟨?_⟩
    simp (disch := omega) only [go_sem, ↓cw_block, dsB_of, hm]
    refine call_to (one (by omega)) ?_
    intro r2 H2 hv
    refine Hush.out ?_
    obtain ⟨rfl, f2⟩ := hv
    have hl1 : ([dig1 (n % 10)] : Str).length = 1 := rfl
    refine ⟨?_⟩
    simp (disch := omega) only [go_sem, ↓cw_block, dsB_of, hl1]
    exact fin ⟨rfl, f1.trans f2⟩
theorem r1Digits_spec {n : Int} (h : -999999 ≤ n ∧ n ≤ 999999) : CallF Try.prog 38 [iv n] H (fun r H' => r = sv (digI n) ∧ Fr [] H H') NoP := by
  unfold digI
  by_cases h0 : n < 0
  · rw [if_pos h0]
    obtain ⟨m, hm⟩ : ∃ m : Nat, -n = m := ⟨(-n).toNat, by omega⟩
    have hmt : (-n).toNat = m := by omega
    rw [hmt]
    have hle := digF_len 7 m
    have hl1 : ([45] : Str).length = 1 := rfl
    refine callF_of Try.func38 rfl Try.ntmps38 Try.results38 (by decide) rfl ?_
    simp (disch := omega) only [go_sem, ↓cw_block, dsB_of, hm]
    refine call_to (r1Digits_pos 6 (by omega) (by omega)) ?_
    intro r1 H1 hv
    refine Hush.out ?_
    obtain ⟨rfl, f1⟩ := hv
    refine ⟨?_⟩
    simp (disch := omega) only [go_sem, ↓cw_block, dsB_of, hl1]
    exact fin ⟨rfl, f1⟩
  · rw [if_neg h0]
    obtain ⟨m, rfl⟩ : ∃ m : Nat, n = m := ⟨n.toNat, by omega⟩
    simp only [Int.toNat_natCast]
    exact r1Digits_pos 6 (by omega) (by omega)
theorem w12num_spec {n : Int} (h : -999999 ≤ n ∧ n ≤ 999999) : CallF Try.prog 20 [iv n] H (fun r H' => r = sv (digI n) ∧ Fr [] H H') NoP := by
  refine callF_of Try.func20 rfl Try.ntmps20 Try.results20 (by decide) rfl ?_
  simp (disch := omega) only [go_sem, ↓cw_block, dsB_of]
  refine call_to (r1Digits_spec h) ?_
  intro r1 H1 hv
  refine Hush.out ?_
  obtain ⟨rfl, f1⟩ := hv
  refine ⟨?_⟩
  simp (disch := omega) only [go_sem, ↓cw_block, dsB_of]
  exact fin ⟨rfl, f1⟩
end
end Go.Proofs.Ythbbeliibdhjmaa

/- The laws on numbers: copies. -/
namespace Go.Proofs.Ythbbeliibdhjmaa
open Go.HL
set_option maxRecDepth 10000
set_option linter.unusedSimpArgs false
set_option linter.unusedVariables false

def dcS (V : Str) (base : Str) : Nat → Str
  | 0 => base
  | i + 1 => ((dcS V base i ++ V) ++ [UInt8.ofNat (97 + i)]) ++ [32, 111, 102, 32, 49, 59, 32]
theorem dcS_len {V base : Str} : ∀ i, (dcS V base i).length = base.length + (V.length + 8) * i
  | 0 => by simp [dcS]
  | i + 1 => by simp [dcS, dcS_len (V := V) (base := base) i, Nat.mul_add]; omega
def cpS0 (a c : Nat) : Str := ((dcS [118, 97, 114, 32, 103] [] c ++ [112, 114, 111, 99, 32, 112, 32, 42, 32]) ++ digI a) ++ [32, 123, 32]
def cpS (a b c : Nat) : Str := dcS [118, 97, 114, 32, 108] (cpS0 a c) b ++ [125]
/-- A text read: its fault, and the kind of what is wrong with its numbers. -/
def tpE (n : Nat) (s : Str) : Option (Flt × Int × Bool) := (parseM n s).map fun r => (r.2, (typM r.1).err, szB r.1)
theorem tpE_open {n : Nat} {s : Str} {f : Flt} {g : Int} (h : tpE n s = some (f, g, true)) : ∃ l p, parseM n s = some (l, f) ∧ typM l = ⟨g, p⟩ ∧ Sz l := by
  unfold tpE at h
  rw [Option.map_eq_some_iff] at h
  obtain ⟨⟨l, f'⟩, h1, h2⟩ := h
  simp only [Prod.mk.injEq] at h2
  obtain ⟨rfl, h3, h4⟩ := h2
  exact ⟨l, (typM l).pos, h1, by rw [← h3], sz_of h4⟩
def cpOk (a b c : Nat) : Bool := decide (tpE 400 (cpS (a + 1) b c) = some (⟨0, 0⟩, if a + 1 ≤ 4 ∧ c + (a + 1) * b ≤ 8 then 0 else 22, true))
theorem cp_bool : ((List.range 5).all fun a => (List.range 4).all fun b => (List.range 6).all fun c => cpOk a b c) = true := by decide +kernel
theorem cp_all (a : Nat) (ha : a < 5) (b : Nat) (hb : b < 4) (c : Nat) (hc : c < 6) : tpE 400 (cpS (a + 1) b c) = some (⟨0, 0⟩, if a + 1 ≤ 4 ∧ c + (a + 1) * b ≤ 8 then 0 else 22, true) := by
  have h := List.all_eq_true.1 cp_bool a (List.mem_range.2 ha)
  have h := List.all_eq_true.1 h b (List.mem_range.2 hb)
  have h := List.all_eq_true.1 h c (List.mem_range.2 hc)
  exact of_decide_eq_true h
section
variable {H : Heap}
set_option maxHeartbeats 4000000 in
theorem typingCopies_spec {m0 m1 m2 : Int} (h0 : 0 ≤ m0 ∧ m0 ≤ 255) (h1 : 0 ≤ m1 ∧ m1 ≤ 255) (h2 : 0 ≤ m2 ∧ m2 ≤ 255) : CallF Try.prog 6 [.int .u8 m0, .int .u8 m1, .int .u8 m2] H (fun r H' => r = .bool true ∧ Fr [] H H') NoP := by
  have c0 := rem_rng m0 5 (by omega)
  have c1 := rem_rng m1 4 (by omega)
  have c2 := rem_rng m2 6 (by omega)
  have w0 : IntKind.i64.wrap m0 = m0 := IntWalk.i64_in _ (by omega)
  have w1 : IntKind.i64.wrap m1 = m1 := IntWalk.i64_in _ (by omega)
  have w2 : IntKind.i64.wrap m2 = m2 := IntWalk.i64_in _ (by omega)
  have tm0 : m0.tmod 5 = m0 % 5 := Int.tmod_eq_emod_of_nonneg (by omega)
  have tm1 : m1.tmod 4 = m1 % 4 := Int.tmod_eq_emod_of_nonneg (by omega)
  have tm2 : m2.tmod 6 = m2 % 6 := Int.tmod_eq_emod_of_nonneg (by omega)
  obtain ⟨a, ha⟩ : ∃ a : Nat, m0 % 5 = (a : Int) := ⟨(m0 % 5).toNat, by omega⟩
  obtain ⟨b, hb⟩ : ∃ b : Nat, m1 % 4 = (b : Int) := ⟨(m1 % 4).toNat, by omega⟩
  obtain ⟨c, hc⟩ : ∃ c : Nat, m2 % 6 = (c : Int) := ⟨(m2 % 6).toNat, by omega⟩
  rw [ha] at tm0
  rw [hb] at tm1
  rw [hc] at tm2
  have ha5 : a < 5 := by omega
  have hb4 : b < 4 := by omega
  have hc6 : c < 6 := by omega
  have ha1 : 1 + (a : Int) = ((a + 1 : Nat) : Int) := by omega
  have L0 : ([118, 97, 114, 32, 103] : Str).length = 5 := rfl
  have L1 : ([32, 111, 102, 32, 49, 59, 32] : Str).length = 7 := rfl
  have L2 : ([112, 114, 111, 99, 32, 112, 32, 42, 32] : Str).length = 9 := rfl
  have L3 : ([32, 123, 32] : Str).length = 3 := rfl
  have L4 : ([118, 97, 114, 32, 108] : Str).length = 5 := rfl
  have L5 : ([125] : Str).length = 1 := rfl
  have hdl : (digI ((a + 1 : Nat) : Int)).length ≤ 7 := by
    unfold digI
    rw [if_neg (by omega)]
    exact digF_len 7 _
  have hcv : ∀ {X : Heap} {i : Nat}, i < 30 → convV Try.prog (full (X.push (.cells #[.int .u8 (97 + (i : Int))] 5))) 41 9 (.slice (some ⟨X.size, 0, none⟩) 1 1) = some (.string (bs [UInt8.ofNat (97 + i)])) := by
    intro X i hi
    have := conv_byte (P := Try.prog) (H := X.push (.cells #[.int .u8 (97 + (i : Int))] 5)) (b := X.size) (o := 0) (c := 1) Try.underlying41 Try.underlying5 Try.underlying9 ((Blk.new rfl).cell 0)
    have hbt : (97 + (i : Int)).toNat = 97 + i := by omega
    rw [hbt] at this
    exact this
  have hwr : ∀ {i : Nat}, i < 30 → IntKind.u8.wrap (97 + (i : Int)) = 97 + (i : Int) := by
    intro i hi
    simp [IntKind.wrap, IntKind.bits, IntKind.signed]; omega
  refine callF_of Try.func6 rfl Try.ntmps6 Try.results6 (by decide) rfl ?_
  simp (disch := omega) only [go_sem, ↓cw_block, dsB_of]
  refine call_to w12awake_spec ?_
  intro r0 H0 hv
  refine Hush.out ?_
  obtain ⟨rfl, f0⟩ := hv
  refine ⟨?_⟩
  simp (disch := omega) only [go_sem, ↓cw_block, dsB_of, w0, w1, w2, tm0, tm1, tm2, ha1]
  refine loop_by (fun m ρ H2 => ∃ i : Nat, m = c - i ∧ i ≤ c ∧ Fr [] H0 H2 ∧ (ρ.get 7 = iv ((a + 1 : Nat) : Int) ∧ ρ.get 8 = iv b ∧ ρ.get 9 = iv c ∧ ρ.get 10 = sv (dcS [118, 97, 114, 32, 103] [] i) ∧ ρ.get 11 = iv i ∧ ρ.ds = [])) (k := c) ?_ ?_
  · exact ⟨0, rfl, by omega, Fr.refl _ _, by (simp (disch := omega) only [go_sem, ↓cw_block, dsB_of]) <;> simp [dcS]⟩
  · rintro m ρ H2 ⟨i, rfl, hi, fr2, r7, r8, r9, r10, r11, rd⟩
    have hxi : (i : Int) + 1 = ((i + 1 : Nat) : Int) := by omega
    have hln : (dcS [118, 97, 114, 32, 103] [] i).length = 13 * i := by rw [dcS_len]; simp
    by_cases hin : i < c
    · have hl1 : (dcS [118, 97, 114, 32, 103] [] i ++ [118, 97, 114, 32, 103]).length = 13 * i + 5 := by rw [List.length_append, hln]; rfl
      have hl2 : ((dcS [118, 97, 114, 32, 103] [] i ++ [118, 97, 114, 32, 103]) ++ [UInt8.ofNat (97 + i)]).length = 13 * i + 6 := by rw [List.length_append, hl1]; rfl
      have hl3 : ([UInt8.ofNat (97 + i)] : Str).length = 1 := rfl
      have hwi := hwr (i := i) (by omega)
      have hci := hcv (X := H2) (i := i) (by omega)
      simp (disch := omega) only [go_sem, ↓cw_block, dsB_of, r7, r8, r9, r10, r11, rd, hwi, hci, hln, hl1, hl2, hl3, L0, L1, L2, L3, L4, L5]
      exact fin ⟨c - (i + 1), by omega, i + 1, rfl, by omega, fr2.trans Fr.push, by (simp (disch := omega) only [go_sem, ↓cw_block, dsB_of, r7, r8, r9, r10, r11, rd, hxi]) <;> simp [dcS]⟩
    obtain rfl : i = c := by omega
    have e1 : (dcS [118, 97, 114, 32, 103] [] i ++ [112, 114, 111, 99, 32, 112, 32, 42, 32]).length = 13 * i + 9 := by rw [List.length_append, hln]; rfl
    have e2 : ((dcS [118, 97, 114, 32, 103] [] i ++ [112, 114, 111, 99, 32, 112, 32, 42, 32]) ++ digI ((a + 1 : Nat) : Int)).length ≤ 13 * i + 16 := by rw [List.length_append, e1]; omega
    have e3 : (cpS0 (a + 1) i).length ≤ 13 * i + 19 := by unfold cpS0; rw [List.length_append]; simp only [L3]; omega
    simp (disch := omega) only [go_sem, ↓cw_block, dsB_of, r7, r8, r9, r10, r11, rd, e1, L0, L1, L2, L3, L4, L5]
    refine call_to (w12num_spec (by omega)) ?_
    intro r1 H1 hv
    refine Hush.out ?_
    obtain ⟨rfl, f1⟩ := hv
    refine ⟨?_⟩
    simp (disch := omega) only [go_sem, ↓cw_block, dsB_of, r7, r8, r9, r10, r11, rd, e1, L0, L1, L2, L3, L4, L5]
    refine loop_by (fun m ρ H3 => ∃ j : Nat, m = b - j ∧ j ≤ b ∧ Fr [] H0 H3 ∧ (ρ.get 7 = iv ((a + 1 : Nat) : Int) ∧ ρ.get 8 = iv b ∧ ρ.get 9 = iv i ∧ ρ.get 10 = sv (dcS [118, 97, 114, 32, 108] (cpS0 (a + 1) i) j) ∧ ρ.get 12 = iv j ∧ ρ.ds = [])) (k := b) ?_ ?_
    · exact ⟨0, rfl, by omega, fr2.trans f1, by (simp (disch := omega) only [go_sem, ↓cw_block, dsB_of, r7, r8, r9, r10, r11, rd]) <;> simp [dcS, cpS0]⟩
    · clear r7 r8 r9 r10 r11 rd
      rintro m ρ H3 ⟨j, rfl, hj, fr3, r7, r8, r9, r10, r12, rd⟩
      have hxj : (j : Int) + 1 = ((j + 1 : Nat) : Int) := by omega
      have hlj : (dcS [118, 97, 114, 32, 108] (cpS0 (a + 1) i) j).length = (cpS0 (a + 1) i).length + 13 * j := by rw [dcS_len]; simp
      by_cases hjn : j < b
      · have hl1 : (dcS [118, 97, 114, 32, 108] (cpS0 (a + 1) i) j ++ [118, 97, 114, 32, 108]).length = (cpS0 (a + 1) i).length + 13 * j + 5 := by rw [List.length_append, hlj]; rfl
        have hl2 : ((dcS [118, 97, 114, 32, 108] (cpS0 (a + 1) i) j ++ [118, 97, 114, 32, 108]) ++ [UInt8.ofNat (97 + j)]).length = (cpS0 (a + 1) i).length + 13 * j + 6 := by rw [List.length_append, hl1]; rfl
        have hl3 : ([UInt8.ofNat (97 + j)] : Str).length = 1 := rfl
        have hwi := hwr (i := j) (by omega)
        have hci := hcv (X := H3) (i := j) (by omega)
        simp (disch := omega) only [go_sem, ↓cw_block, dsB_of, r7, r8, r9, r10, r12, rd, hwi, hci, hlj, hl1, hl2, hl3, L0, L1, L2, L3, L4, L5]
        exact fin ⟨b - (j + 1), by omega, j + 1, rfl, by omega, fr3.trans Fr.push, by (simp (disch := omega) only [go_sem, ↓cw_block, dsB_of, r7, r8, r9, r10, r12, rd, hxj]) <;> simp [dcS]⟩
      obtain rfl : j = b := by omega
      have hall := cp_all a ha5 j hb4 i hc6
      obtain ⟨l1, pp, p1, s1, z1⟩ := tpE_open hall
      unfold cpS at p1
      simp (disch := omega) only [go_sem, ↓cw_block, dsB_of, r7, r8, r9, r10, r12, rd, hlj, L0, L1, L2, L3, L4, L5]
      refine call_to (parse_spec p1) ?_
      intro r1' H4 hv
      refine Hush.out ?_
      obtain ⟨v1, rfl, f4, nl1⟩ := hv
      have nl1' := nl1.grow (Fr.push (F := []) (o := .cells #[iv 0, iv 0] 27))
      obtain ⟨B1, hB1⟩ : ∃ B, B = H4.push (.cells #[iv 0, iv 0] 27) := ⟨_, rfl⟩
      have g1 : Fr [] H4 B1 := by rw [hB1]; exact Fr.push
      have d1 : Blk B1 H4.size 27 [iv 0, iv 0] := by rw [hB1]; exact Blk.new rfl
      rw [← hB1] at nl1'
      refine ⟨?_⟩
      simp (disch := omega) only [go_sem, ↓cw_block, dsB_of, fltV, r7, r8, r9, r10, r12, rd]
      rw [← hB1]
      refine call_to (tyCheck_spec nl1' z1) ?_
      intro r3 H5 hv
      refine Hush.out ?_
      obtain ⟨f5, rfl⟩ := hv
      rw [s1]
      have q1 := (f5.blk d1 (by simp)).cell 0
      simp only [List.getElem?_cons_zero] at q1
      have hm : IntKind.i64.wrap (((a + 1 : Nat) : Int) * (j : Int)) = (((a + 1) * j : Nat) : Int) := by
        rw [← Int.natCast_mul]
        refine wrap64 ?_
        have : (a + 1) * j ≤ 5 * 3 := Nat.mul_le_mul (by omega) (by omega)
        omega
      have hab : (a + 1) * j ≤ 15 := Nat.mul_le_mul (show a + 1 ≤ 5 by omega) (show j ≤ 3 by omega)
      have hfrs : Fr [] H B1 := (((f0.trans fr3).trans f4).trans g1)
      by_cases c1 : a + 1 ≤ 4
      · by_cases c2 : i + (a + 1) * j ≤ 8
        · rw [if_pos ⟨c1, c2⟩] at *
          have q1' := (Fr.push (F := []) (o := .cells #[iv 0, iv pp] 27)).cell' q1 (by simp)
          refine ⟨?_⟩
          simp (disch := omega) only [go_sem, ↓cw_block, dsB_of, fltV, r7, r8, r9, r10, r12, rd, hm, q1, q1']
          exact fin ⟨rfl, (hfrs.trans f5).trans Fr.push⟩
        · rw [if_neg (fun e => c2 e.2)] at *
          have q1' := (Fr.push (F := []) (o := .cells #[iv 22, iv pp] 27)).cell' q1 (by simp)
          refine ⟨?_⟩
          simp (disch := omega) only [go_sem, ↓cw_block, dsB_of, fltV, r7, r8, r9, r10, r12, rd, hm, q1, q1']
          exact fin ⟨rfl, (hfrs.trans f5).trans Fr.push⟩
      · rw [if_neg (fun e => c1 e.1)] at *
        have q1' := (Fr.push (F := []) (o := .cells #[iv 22, iv pp] 27)).cell' q1 (by simp)
        refine ⟨?_⟩
        simp (disch := omega) only [go_sem, ↓cw_block, dsB_of, fltV, r7, r8, r9, r10, r12, rd, hm, q1, q1']
        exact fin ⟨rfl, (hfrs.trans f5).trans Fr.push⟩
end
end Go.Proofs.Ythbbeliibdhjmaa

/- Proved: for every input the law TypingCopies returns true, and its arguments read as they did. No condition. -/
namespace Go.Proofs.Ythbbeliibdhjmaa.typingCopies
open Go.ChangeShapes Go.WideShapes Go.ChangeAt Go.RowKit Go.HL
set_option linter.unusedVariables false

theorem own : ownKnob Try.prog.godebug = none := by kernel_rfl
theorem laidOut : laidOutB Try.prog = true := by kernel_rfl

set_option maxRecDepth 100000 in
theorem lifted (os : Os) (started : os.Started) (H : Type) (enc : TypeId × Value → H) :
    ReturnsInHanded {} Try.checked os 6 .any (Rows.typingCopiesSpec.pre6 enc Try.prog Try.f6 Rows.typingCopiesRow.domain false) (Rows.typingCopiesSpec.post enc Try.prog Try.f6 false true false false) := by
  refine returnsInHanded_of_change (C := Try.checked) own started (by kernel_rfl) Try.func6
    (ChangeSpec.witness6 (enc := enc) (C := Try.checked) false ⟨#[], #[.int .u8 0, .int .u8 0, .int .u8 0], []⟩ 8 (by kernel_rfl) (by kernel_rfl) (by kernel_rfl) (by kernel_rfl)) ?_
  intro W base args ds gs before hval0 hW _ _
  have hval : ∀ (j : Nat) t v, Try.f6.params[j]? = some t → args[j]? = some v → Value.okWide Try.prog W .any base t v := hval0
  have hW' := hW
  obtain ⟨p, q, hA0, hV, rfl, hfz, hnd⟩ := hW
  have hA : DataW.TrodAll enc Try.prog W 0 (fun _ => true) true Try.f6.params.toList args.toList ds p := hA0
  rw [Try.params6] at hA hval
  obtain ⟨v0, v1, v2, d0, d1, d2, p0, p1, p2, rfl, rfl, rfl, t0, t1, t2⟩ := trodAll_three hA
  obtain ⟨rfl, rfl⟩ := trodVars_none hV
  obtain ⟨m0, rfl, rfl, rfl, wm0⟩ := open_int Try.underlying5 (hval 0 5 v0 rfl rfl) t0
  have h0 : 0 ≤ m0 ∧ m0 ≤ 255 := by simpa [Lit.wf, IntKind.min, IntKind.max, IntKind.signed, IntKind.bits] using wm0
  obtain ⟨m1, rfl, rfl, rfl, wm1⟩ := open_int Try.underlying5 (hval 1 5 v1 rfl rfl) t1
  have h1 : 0 ≤ m1 ∧ m1 ≤ 255 := by simpa [Lit.wf, IntKind.min, IntKind.max, IntKind.signed, IntKind.bits] using wm1
  obtain ⟨m2, rfl, rfl, rfl, wm2⟩ := open_int Try.underlying5 (hval 2 5 v2 rfl rfl) t2
  have h2 : 0 ≤ m2 ∧ m2 ≤ 255 := by simpa [Lit.wf, IntKind.min, IntKind.max, IntKind.signed, IntKind.bits] using wm2
  have hcall := hcalls_of_callF Try.func6 rfl (by decide) (typingCopies_spec (H := W.heap) h0 h1 h2)
  refine (calls_of_hcalls hcall (R := fun W' => Below W.heap.size W W') (fun W' hb => hb)).mono ?_
  rintro e W' ⟨v, rfl, rfl, hb⟩
  exact ⟨_, rfl, law_post laidOut (by rw [Try.params6]; intro t ht; simp at ht; rcases ht with rfl | rfl | rfl <;> exact ⟨by kernel_rfl, of_decide_eq_true (by kernel_rfl)⟩) (tb := 4) (by kernel_rfl) Try.underlying4 rfl rfl rfl rfl hW' hb⟩

theorem proved : Rows.TypingCopiesSaid :=
  OpenClaim.holds_of_wide 6 Try.f6 rfl rfl rfl rfl rfl rfl rfl ⟨rfl, rfl, rfl, rfl, rfl⟩ rfl rfl rfl rfl rfl (by kernel_rfl) Try.func6 (by kernel_rfl)
    (of_decide_eq_true (by kernel_rfl)) (by unfold Func.isWrapper; first | (rw [if_pos (by decide +kernel)]; kernel_rfl) | (rw [if_neg (by decide +kernel)]; exact ⟨rfl, rfl⟩))
    (fun os started H enc _ => lifted os started H enc)
#print axioms proved
end Go.Proofs.Ythbbeliibdhjmaa.typingCopies
