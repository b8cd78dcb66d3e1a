/- Proved: the card of the law ShowLines: for every input it returns true, and its arguments read as they did; what its row lists is tied to the program's text. -/
import Derived.Test.YtcffdpmmadipeaaDoorMXC
import Derived.Test.YtcffdpmmadipeaaDoorMXA
import Derived.Test.YtcffdpmmadipeaaDoorMX9
import Derived.Test.YtcffdpmmadipeaaDoorCards
import Derived.Test.YtcffdpmmadipeaaDoorTie
import Derived.ProofKit
import Derived.LaidMore
import Derived.Stop.Joined
import Derived.SevenTiedAt

/- The law ShowLines: what lines look like. -/
namespace Go.Proofs.YtcffdpmmadipeaaDoor
open Go.HL
set_option maxRecDepth 10000
set_option linter.unusedSimpArgs false
set_option linter.unusedVariables false

/-- One byte more: is what stands last neither a blank nor the end of a line? -/
def stp (b : Bool) (c : UInt8) : Option Bool := if c = 9 ∨ 126 < c then none else if c = 10 then (if b then some false else none) else if c = 32 then some false else some true
def runL (b : Bool) : Str → Option Bool
  | [] => some b
  | c :: r => (stp b c).bind fun b' => runL b' r
theorem runL_app : ∀ (s t : Str) (b : Bool), runL b (s ++ t) = (runL b s).bind fun b' => runL b' t
  | [], t, b => rfl
  | c :: s, t, b => by
    simp only [List.cons_append, runL]
    cases stp b c with
    | none => rfl
    | some b' => simp only [Option.bind_some]; exact runL_app s t b'
theorem run_ok {s t : Str} {b b1 : Bool} {x : Option Bool} (h : runL b s = some b1) (h' : runL b1 t = x) : runL b (s ++ t) = x := by rw [runL_app, h, Option.bind_some, h']
theorem stp_word {c : UInt8} (h : wordM c = true) (b : Bool) : stp b c = some true := by
  unfold wordM letterM digitM at h
  simp only [Bool.or_eq_true, Bool.and_eq_true, decide_eq_true_eq, UInt8.le_iff_toNat_le, beq_iff_eq] at h
  have e1 : c ≠ 9 := by rintro rfl; simp at h
  have e2 : ¬ 126 < c := by rw [UInt8.lt_iff_toNat_lt]; simp at h ⊢; omega
  have e3 : c ≠ 10 := by rintro rfl; simp at h
  have e4 : c ≠ 32 := by rintro rfl; simp at h
  simp [stp, e1, e2, e3, e4]
theorem run_words : ∀ {w : Str} {b : Bool}, w.all wordM = true → w ≠ [] → runL b w = some true
  | [], _, _, h => absurd rfl h
  | [c], b, h, _ => by
    simp only [List.all_cons, List.all_nil, Bool.and_true] at h
    simp [runL, stp_word h b]
  | c :: d :: r, b, h, _ => by
    rw [List.all_cons, Bool.and_eq_true] at h
    unfold runL
    rw [stp_word h.1 b, Option.bind_some]
    exact run_words h.2 (by simp)
theorem run_name {w : Str} {b : Bool} (h : nameM w = true) : runL b w = some true := by
  unfold nameM at h
  simp only [Bool.and_eq_true, decide_eq_true_eq] at h
  exact run_words h.2 (by intro e; rw [e] at h; simp at h)
theorem run_dig {z : Int} {b : Bool} : runL b (digI z) = some true := by
  have key : ∀ (b : Bool) (n : Nat), runL b (digF 7 n) = some true := by
    intro b n
    refine run_words ?_ ?_
    · have := digF_all 7 n
      rw [List.all_eq_true] at this ⊢
      intro x hx
      unfold wordM
      rw [this x hx]; simp
    · have := @digF_pos 6 n
      intro e; rw [e] at this; simp at this
  unfold digI
  split
  · show runL b ([45] ++ digF 7 _) = _
    exact run_ok (b1 := true) (by cases b <;> decide) (key _ _)
  · exact key _ _
theorem run_par {c : Bool} {s : Str} (h : ∀ b, runL b s = some true) (b : Bool) : runL b (parS c s) = some true := by
  unfold parS
  split
  · exact run_ok (run_ok (b1 := true) (by cases b <;> decide) (h true)) (by decide)
  · exact h b
theorem run_sign {z : Int} {b : Bool} : runL b (signM z) = some true := by
  unfold signM
  (repeat' split) <;> (cases b <;> decide)
theorem run_in : ∀ (d : Nat), runL false (inS d) = some false
  | 0 => rfl
  | d + 1 => by
    rw [inS_succ]
    exact run_ok (b1 := false) (run_ok (b1 := false) (run_in d) (by decide)) (by decide)
/-- How a tree's text looks. -/
def LnP (n : Nd) (k : Fo) : Prop := (17 ≤ n.kind → n.kind ≤ 22 → ∀ b, runL b (exN n k.vs) = some true) ∧ (1 ≤ n.kind → n.kind ≤ 15 → ∀ d b, runL b (thN n k.vs d) = some true) ∧ (n.kind = 16 → ∀ d b, runL b (braS k.vs d) = some true)
theorem lines_run : ∀ {k : Fo}, k.All LnP → (∀ x ∈ k.kinds, 1 ≤ x ∧ x ≤ 15) → ∀ d, runL false (linesS d k.vs) = some false
  | .nil, _, _, d => rfl
  | .cons n q r, h, hk, d => by
    have h1 := hk n.kind (by simp [Fo.kinds])
    simp only [Fo.vs, linesS, stepV]
    exact run_ok (b1 := false) (run_ok (b1 := true) (run_ok (run_in d) (h.1.2.1 h1.1 h1.2 d false)) (by decide)) (lines_run h.2 (fun x hx => hk x (by simp [Fo.kinds, hx])) d)
theorem bra_run {k : Fo} (h : k.All LnP) (hk : ∀ x ∈ k.kinds, 1 ≤ x ∧ x ≤ 15) (d : Nat) (b : Bool) : runL b (braS k.vs d) = some true := by
  cases k with
  | nil => show runL b [123, 32, 125] = _; cases b <;> decide
  | cons n q r => exact run_ok (b1 := false) (run_ok (b1 := false) (run_ok (b1 := false) (by cases b <;> decide) (lines_run h hk (d + 1))) (run_in d)) (by decide)
theorem rest_run {w : Str} (hw : ∃ b', runL true w = some b') : ∀ {k : Fo}, k.All LnP → (∀ x ∈ k.kinds, x = 16) → ∀ d, runL true (restS w d k.vs) = some true
  | .nil, _, _, d => rfl
  | .cons n q r, h, hk, d => by
    obtain ⟨b', hb'⟩ := hw
    simp only [Fo.vs, restS, stepV]
    exact run_ok (run_ok hb' (h.1.2.2 (hk _ (by simp [Fo.kinds])) d b')) (rest_run ⟨b', hb'⟩ h.2 (fun x hx => hk x (by simp [Fo.kinds, hx])) d)
theorem join_run {w : Str} (hw : ∃ b', runL true w = some b') {k : Fo} (h : k.All LnP) (hk : ∀ x ∈ k.kinds, x = 16) (hl : 0 < k.len) (d : Nat) (b : Bool) : runL b (joinS w d k.vs) = some true := by
  cases k with
  | nil => simp [Fo.len] at hl
  | cons n q r =>
    simp only [Fo.vs, joinS, stepV]
    exact run_ok (h.1.2.2 (hk _ (by simp [Fo.kinds])) d b) (rest_run hw h.2 (fun x hx => hk x (by simp [Fo.kinds, hx])) d)
theorem opt_run {z : Int} {b : Bool} {w : Str} (h : ∀ b, runL b w = some false) : ∃ b', runL b (optS z w) = some b' := by
  unfold optS
  split
  · exact ⟨b, rfl⟩
  · exact ⟨false, h b⟩
theorem ex_run {n : Nd} {k : Fo} (h : okN n k.kinds = true) (hk : k.All LnP) (h17 : 17 ≤ n.kind) (h22 : n.kind ≤ 22) (b : Bool) : runL b (exN n k.vs) = some true := by
  have : n.kind = 17 ∨ n.kind = 18 ∨ n.kind = 19 ∨ n.kind = 20 ∨ n.kind = 21 ∨ n.kind = 22 := by omega
  rcases this with e | e | e | e | e | e
  · simp only [exN, e, Int.reduceEq, ↓reduceIte]; exact run_dig
  · simp only [exN, e, Int.reduceEq, ↓reduceIte]; exact run_name (okN_name h (i := 0) (by rw [e]; decide))
  · simp only [exN, e, Int.reduceEq, ↓reduceIte]; exact run_ok (b1 := false) (by cases b <;> decide) (run_name (okN_name h (i := 0) (by rw [e]; decide)))
  · obtain ⟨n1, k1, rfl, g1, g2⟩ := kidsE h (by omega)
    simp only [exN, e, Int.reduceEq, ↓reduceIte]; exact run_ok (b1 := true) (by cases b <;> decide) (run_par (hk.1.1 g1 g2) true)
  · obtain ⟨n1, k1, rfl, g1, g2⟩ := kidsE h (by omega)
    simp only [exN, e, Int.reduceEq, ↓reduceIte]; exact run_ok (b1 := true) (by cases b <;> decide) (run_par (hk.1.1 g1 g2) true)
  · obtain ⟨n1, k1, n2, k2, rfl, g1, g2⟩ := kids22 h e
    simp only [exN, e, Int.reduceEq, ↓reduceIte]
    exact run_ok (b1 := false) (run_ok (b1 := true) (run_ok (b1 := false) (run_ok (b1 := true) (run_par (hk.1.1 g1.1 g1.2) b) (by decide)) run_sign) (by decide)) (run_par (hk.2.1.1 g2.1 g2.2) false)
theorem th_run {n : Nd} {k : Fo} (h : okN n k.kinds = true) (hk : k.All LnP) (h1 : 1 ≤ n.kind) (h15 : n.kind ≤ 15) (d : Nat) (b : Bool) : runL b (thN n k.vs d) = some true := by
  have : n.kind = 1 ∨ n.kind = 2 ∨ n.kind = 3 ∨ n.kind = 4 ∨ n.kind = 5 ∨ n.kind = 6 ∨ n.kind = 7 ∨ n.kind = 8 ∨ n.kind = 9 ∨ n.kind = 10 ∨ n.kind = 11 ∨ n.kind = 12 ∨ n.kind = 13 ∨ n.kind = 14 ∨ n.kind = 15 := by omega
  have idle : ∀ (z : Int), ∃ b', runL b (optS z [105, 100, 108, 101, 32]) = some b' := fun z => opt_run (fun b => by cases b <;> decide)
  rcases this with e | e | e | e | e | e | e | e | e | e | e | e | e | e | e
  · have nm := fun b => run_name (b := b) (okN_name h (i := 0) (by rw [e]; decide))
    simp only [thN, e, Int.reduceEq, ↓reduceIte]
    have o1 : ∃ b', runL true (optS (n.nums.getD 2 0) [32, 108, 111, 115, 115, 121]) = some b' := ⟨true, by unfold optS; split <;> decide⟩
    have o1' : runL true (optS (n.nums.getD 2 0) [32, 108, 111, 115, 115, 121]) = some true := by unfold optS; split <;> decide
    have o2' : runL true (optS (n.nums.getD 3 0) [32, 99, 111, 112, 121, 105, 110, 103]) = some true := by unfold optS; split <;> decide
    exact run_ok (b1 := true) (run_ok (b1 := true) (run_ok (b1 := true) (run_ok (b1 := false) (run_ok (b1 := true) (run_ok (b1 := true) (run_ok (b1 := true) (run_ok (b1 := false) (by cases b <;> decide) (nm false)) (by decide)) run_dig) (by decide)) run_dig) o1') o2') (by decide)
  · have nm := fun b => run_name (b := b) (okN_name h (i := 0) (by rw [e]; decide))
    simp only [thN, e, Int.reduceEq, ↓reduceIte]
    exact run_ok (b1 := true) (run_ok (b1 := false) (run_ok (b1 := true) (run_ok (b1 := false) (run_ok (b1 := true) (run_ok (b1 := false) (by cases b <;> decide) (nm false)) (by decide)) run_dig) (by decide)) run_dig) (by decide)
  · have nm := fun b => run_name (b := b) (okN_name h (i := 0) (by rw [e]; decide))
    simp only [thN, e, Int.reduceEq, ↓reduceIte]
    exact run_ok (b1 := false) (run_ok (b1 := true) (run_ok (b1 := false) (run_ok (b1 := true) (run_ok (b1 := false) (by cases b <;> decide) (nm false)) (by decide)) run_dig) (by decide)) (bra_run hk (fun x hx => by have := kids3 h e x hx; omega) d false)
  · obtain ⟨n1, k1, rfl, g1, g2⟩ := kidsE h (by omega)
    simp only [thN, e, Int.reduceEq, ↓reduceIte]
    exact run_ok (b1 := true) (run_ok (b1 := false) (by cases b <;> decide) (hk.1.1 g1 g2 false)) (by decide)
  · simp only [thN, e, Int.reduceEq, ↓reduceIte]; cases b <;> decide
  · obtain ⟨n1, k1, rfl, g1, g2⟩ := kidsE h (by omega)
    have nm := fun b => run_name (b := b) (okN_name h (i := 0) (by rw [e]; decide))
    simp only [thN, e, Int.reduceEq, ↓reduceIte]
    exact run_ok (b1 := true) (run_ok (b1 := false) (run_ok (b1 := true) (nm b) (by decide)) (hk.1.1 g1 g2 false)) (by decide)
  · obtain ⟨n1, k1, rfl, g1, g2⟩ := kidsE h (by omega)
    have nm := fun b => run_name (b := b) (okN_name h (i := 0) (by rw [e]; decide))
    simp only [thN, e, Int.reduceEq, ↓reduceIte]
    exact run_ok (b1 := true) (run_ok (b1 := false) (run_ok (b1 := true) (run_ok (b1 := false) (by cases b <;> decide) (nm false)) (by decide)) (hk.1.1 g1 g2 false)) (by decide)
  · have nm := fun b => run_name (b := b) (okN_name h (i := 0) (by rw [e]; decide))
    have nm1 := fun b => run_name (b := b) (okN_name h (i := 1) (by rw [e]; decide))
    obtain ⟨b', hb'⟩ := idle (n0' n)
    simp only [thN, e, Int.reduceEq, ↓reduceIte]
    exact run_ok (b1 := true) (run_ok (b1 := false) (run_ok (b1 := true) (run_ok (b1 := false) (run_ok hb' (by cases b' <;> decide)) (nm false)) (by decide)) (nm1 false)) (by decide)
  · obtain ⟨n1, k1, rfl, g1, g2⟩ := kidsE h (by omega)
    obtain ⟨b', hb'⟩ := idle (n0' n)
    simp only [thN, e, Int.reduceEq, ↓reduceIte]
    exact run_ok (b1 := true) (run_ok (b1 := false) (run_ok hb' (by cases b' <;> decide)) (hk.1.1 g1 g2 false)) (by decide)
  · obtain ⟨g1, g2⟩ := kids10 h e
    rw [Fo.kinds_len] at g1
    obtain ⟨b', hb'⟩ := idle (n0' n)
    simp only [thN, e, Int.reduceEq, ↓reduceIte]
    exact run_ok (b1 := false) (run_ok hb' (by cases b' <;> decide)) (join_run ⟨false, by decide⟩ hk g2 g1 d false)
  · obtain ⟨n1, k1, r, rfl, g1, g2, g3⟩ := kids11 h e
    simp only [thN, e, Int.reduceEq, ↓reduceIte, Fo.vs, List.tail_cons]
    exact run_ok (b1 := false) (run_ok (b1 := true) (run_ok (b1 := false) (by cases b <;> decide) (hk.1.1 g1.1 g1.2 false)) (by decide)) (join_run ⟨false, by decide⟩ hk.2 g3 (by omega) d false)
  · obtain ⟨n1, k1, r, rfl, g1, g2, g3⟩ := kids12 h e
    simp only [thN, e, Int.reduceEq, ↓reduceIte, Fo.vs, List.tail_cons]
    exact run_ok (b1 := false) (run_ok (b1 := true) (run_ok (b1 := false) (by cases b <;> decide) (hk.1.1 g1.1 g1.2 false)) (by decide)) (join_run ⟨true, by decide⟩ hk.2 g3 (by omega) d false)
  · obtain ⟨g2, g3⟩ := kids13 h e
    simp only [thN, e, Int.reduceEq, ↓reduceIte]
    exact run_ok (b1 := false) (by cases b <;> decide) (join_run ⟨true, by decide⟩ hk g3 (by omega) d false)
  · simp only [thN, e, Int.reduceEq, ↓reduceIte]; cases b <;> decide
  · simp only [thN, e, Int.reduceEq, ↓reduceIte]; cases b <;> decide
theorem all_run : ∀ (k : Fo), k.ok = true → k.All LnP
  | .nil, _ => trivial
  | .cons n q r, h => by
    simp only [Fo.ok, Bool.and_eq_true] at h
    have hq := all_run q h.2.1
    exact ⟨⟨ex_run h.1 hq, th_run h.1 hq, fun e d b => bra_run hq (fun x hx => by have := kids16 h.1 e x hx; omega) d b⟩, all_run r h.2.2⟩
theorem run_facts : ∀ (s : Str) (b b' : Bool), runL b s = some b' → ∀ (i : Nat) (c : UInt8), s[i]? = some c → c ≠ 9 ∧ ¬ 126 < c ∧ (c = 10 → (i = 0 → b = true) ∧ ∀ (j : Nat) (p : UInt8), i = j + 1 → s[j]? = some p → p ≠ 32 ∧ p ≠ 10)
  | [], b, b', _, i, c, hc => by simp at hc
  | x :: r, b, b', h, i, c, hc => by
    unfold runL at h
    cases hs : stp b x with
    | none => rw [hs] at h; simp at h
    | some b1 =>
    rw [hs, Option.bind_some] at h
    have ih := run_facts r b1 b' h
    have hx : x ≠ 9 ∧ ¬ 126 < x ∧ (x = 10 → b = true) ∧ (b1 = true → x ≠ 32 ∧ x ≠ 10) := by
      unfold stp at hs
      split at hs
      · cases hs
      · rename_i h0
        rw [not_or] at h0
        split at hs
        · rename_i h1
          split at hs
          · rename_i hb; cases hs; exact ⟨h0.1, h0.2, fun _ => hb, fun e => by cases e⟩
          · cases hs
        · rename_i h1
          split at hs
          · rename_i h2; cases hs; exact ⟨h0.1, h0.2, fun e => absurd e h1, fun e => by cases e⟩
          · rename_i h2; cases hs; exact ⟨h0.1, h0.2, fun e => absurd e h1, fun _ => ⟨h2, h1⟩⟩
    cases i with
    | zero =>
      simp only [List.getElem?_cons_zero, Option.some.injEq] at hc
      subst hc
      exact ⟨hx.1, hx.2.1, fun e => ⟨fun _ => hx.2.2.1 e, fun j p hj => by omega⟩⟩
    | succ i =>
      simp only [List.getElem?_cons_succ] at hc
      obtain ⟨a1, a2, a3⟩ := ih i c hc
      refine ⟨a1, a2, fun e => ⟨fun h0 => by omega, fun j p hj hp => ?_⟩⟩
      obtain ⟨a4, a5⟩ := a3 e
      cases j with
      | zero =>
        simp only [List.getElem?_cons_zero, Option.some.injEq] at hp
        subst hp
        exact hx.2.2.2 (a4 (by omega))
      | succ j => exact a5 j p (by omega) (by simpa using hp)
theorem lines_end : ∀ (ks : List KV) (d : Nat), linesS d ks = [] ∨ ∃ t, linesS d ks = t ++ [10]
  | [], d => .inl rfl
  | k :: r, d => by
    refine .inr ?_
    rcases lines_end r d with h | ⟨t, h⟩
    · exact ⟨inS d ++ k.th d, by simp [linesS, h]⟩
    · exact ⟨inS d ++ k.th d ++ [10] ++ t, by simp [linesS, h]⟩
/-- What is shown: lines. -/
structure LnOk (s : Str) : Prop where
  at_ : ∀ i, i < s.length → bt8 s i ≠ 9 ∧ ¬ 126 < bt8 s i ∧ (bt8 s i = 10 → i ≠ 0 ∧ bt8 s (i - 1) ≠ 32 ∧ bt8 s (i - 1) ≠ 10)
  fin : s = [] ∨ bt8 s (s.length - 1) = 10
theorem lnOk_nil : LnOk [] := ⟨fun i h => by simp at h, .inl rfl⟩
theorem showM_ln (l : List Nd) : LnOk (showM l) := by
  cases h : prRightM l with
  | false => rw [showM_no h]; exact lnOk_nil
  | true =>
    obtain ⟨n, k, hrt, rfl⟩ := right_rt h
    rw [showM_lay hrt]
    have hk := hrt.kok
    have hr := lines_run (all_run k hk.1) (fun x hx => by have := hk.2.2 x hx; omega) 0
    refine ⟨fun i hi => ?_, ?_⟩
    · obtain ⟨a1, a2, a3⟩ := run_facts _ _ _ hr i _ (bt8_lt hi)
      refine ⟨a1, a2, fun e => ?_⟩
      obtain ⟨a4, a5⟩ := a3 e
      have h0 : i ≠ 0 := fun e0 => by have := a4 e0; cases this
      exact ⟨h0, a5 (i - 1) _ (by omega) (bt8_lt (l := showT k) (i := i - 1) (by omega))⟩
    · rcases lines_end k.vs 0 with e | ⟨t, e⟩
      · exact .inl e
      · refine .inr ?_
        unfold showT
        rw [e]
        simp [bt8]
section
variable {H : Heap} {S S' : Nat → Prop} {v v' : Value} {l l' : List Nd}
set_option maxHeartbeats 1000000 in
theorem showLines_spec (h : NL H S v l) (hz : Sz l) (gt : GT H) : CallF Tryd.prog 6 [v] H (fun r H' => r = .bool true ∧ Fr [] H H') NoP := by
  have wake : ∀ {H' : Heap}, Fr [] H H' → CallF Tryd.prog 7 [] H' (fun r H'' => r = .bool true ∧ Fr [] H' H'') NoP := fun f => w10awake_spec (gt.grow f)
  refine callF_of Tryd.func6 rfl Tryd.ntmps6 Tryd.results6 (by decide) rfl ?_
  simp (disch := omega) only [go_sem, ↓cB, dB]
  refine call_to (w10awake_spec gt) ?_
  intro v H1 hv
  refine Hush.out ?_
  obtain ⟨rfl, f1⟩ := hv
  refine ⟨?_⟩
  simp (disch := omega) only [go_sem, ↓cB, dB]
  refine call_to (r9Small_spec (h.grow f1) hz) ?_
  intro v H2 hv
  refine Hush.out ?_
  obtain ⟨rfl, rfl⟩ := hv
  refine ⟨?_⟩
  cases hsm : smallM l with
  | false =>
    simp (disch := omega) only [go_sem, ↓cB, dB, hsm]
    refine call_to (wake f1) ?_
    intro v H3 hv
    refine Hush.out ?_
    obtain ⟨rfl, f3⟩ := hv
    refine ⟨?_⟩
    simp (disch := omega) only [go_sem, ↓cB, dB]
    exact fin ⟨rfl, f1.trans f3⟩
  | true =>
    simp (disch := omega) only [go_sem, ↓cB, dB, hsm]
    refine call_to (wShow_spec (h.grow f1) hz (gt.grow f1)) ?_
    intro v H4 hv
    refine Hush.out ?_
    obtain ⟨f4, rfl⟩ := hv
    refine ⟨?_⟩
    have ln := showM_ln l
    have hlen := showM_len l
    generalize showM l = s at *
    simp (disch := omega) only [go_sem, ↓cB, dB]
    refine loop_by (fun kk ρ H3 => ∃ i : Nat, kk = s.length - i ∧ i ≤ s.length ∧ H4 = H3 ∧ (ρ.get 3 = sv s ∧ ρ.get 4 = iv i ∧ ρ.ds = [])) (k := s.length) ?_ ?_
    · exact ⟨0, rfl, by omega, rfl, by simp (disch := omega) only [go_sem, ↓cB, dB]⟩
    · rintro kk ρ H3 ⟨i, rfl, hi, rfl, r3, r4, rd⟩
      have hxi : (i : Int) + 1 = ((i + 1 : Nat) : Int) := by omega
      by_cases hin : i < s.length
      · obtain ⟨a1, a2, a3⟩ := ln.at_ i hin
        have b1 : ¬ ((bt8 s i).toNat : Int) = 9 := by intro e; exact a1 (UInt8.toNat_inj.1 (by show _ = 9; omega))
        have b2 : ¬ (126 : Int) < ((bt8 s i).toNat : Int) := by rw [UInt8.lt_iff_toNat_lt] at a2; simp at a2; omega
        by_cases hc : bt8 s i = 10
        · obtain ⟨h0, c1, c2⟩ := a3 hc
          have hi1 : (i : Int) - 1 = ((i - 1 : Nat) : Int) := by omega
          have d0 : ¬ (i : Int) = 0 := by omega
          have d1 : ¬ ((bt8 s (i - 1)).toNat : Int) = 32 := by intro e; exact c1 (UInt8.toNat_inj.1 (by show _ = 32; omega))
          have d2 : ¬ ((bt8 s (i - 1)).toNat : Int) = 10 := by intro e; exact c2 (UInt8.toNat_inj.1 (by show _ = 10; omega))
          have d3 : ((bt8 s i).toNat : Int) = 10 := by rw [hc]; rfl
          simp (disch := omega) only [go_sem, ↓cB, dB, r3, r4, rd, b1, d3, d0, hi1, d1, d2, decide_true, decide_false]
          exact fin ⟨s.length - (i + 1), by omega, i + 1, rfl, by omega, rfl, by simp (disch := omega) only [go_sem, ↓cB, dB, r3, r4, rd, hxi]⟩
        · have d3 : ¬ ((bt8 s i).toNat : Int) = 10 := by intro e; exact hc (UInt8.toNat_inj.1 (by show _ = 10; omega))
          simp (disch := omega) only [go_sem, ↓cB, dB, r3, r4, rd, b1, d3, b2, decide_true, decide_false]
          exact fin ⟨s.length - (i + 1), by omega, i + 1, rfl, by omega, rfl, by simp (disch := omega) only [go_sem, ↓cB, dB, r3, r4, rd, hxi]⟩
      · have : i = s.length := by omega
        subst this
        by_cases he : s = []
        · simp (disch := omega) only [go_sem, ↓cB, dB, r3, r4, rd, he, decide_true]
          exact fin ⟨rfl, f1.trans f4⟩
        · have hp : 0 < s.length := List.length_pos_iff.2 he
          have hf := ln.fin.resolve_left he
          have hi1 : (s.length : Int) - 1 = ((s.length - 1 : Nat) : Int) := by omega
          have d3 : ((bt8 s (s.length - 1)).toNat : Int) = 10 := by rw [hf]; rfl
          simp (disch := omega) only [go_sem, ↓cB, dB, r3, r4, rd, he, decide_false, hi1, d3]
          exact fin ⟨rfl, f1.trans f4⟩
end
end Go.Proofs.YtcffdpmmadipeaaDoor


/- Proved: the card of the law ShowLines: for every input it returns true, and its arguments read as they did; what its row lists is tied to the program's text. -/
namespace Go.Proofs.YtcffdpmmadipeaaDoor.showLines
open Go Go.ChangeShapes Go.WideShapes Go.ChangeAt Go.RowKit Go.HL
set_option linter.unusedVariables false

theorem own : ownKnob Tryd.prog.godebug = none := by kernel_rfl
theorem laidOut : laidOutB Tryd.prog = true := by kernel_rfl

set_option maxRecDepth 100000 in
theorem lifted (os : Os) (started : os.Started) (H : Type) (enc : TypeId × Value → H) :
    ReturnsInHanded {} Tryd.checked os 6 .any (fun w args => (Rows.showLinesSpec.pre enc Tryd.prog Tryd.f6 [] false w args ∧ laidMetH Tryd.prog Rows.showLinesRow.laid w) ∧ sizedMet enc Tryd.prog Tryd.f6 (OpenSpec.ofChange Rows.showLinesSpec) false w args)
      (Rows.showLinesSpec.post enc Tryd.prog Tryd.f6 false true false false) := by
  refine returnsInHanded_of_change_and (C := Tryd.checked) (X := fun w _ => laidMetH Tryd.prog Rows.showLinesRow.laid w) (fun _ _ _ hh h => h.of_heap hh) own started (by kernel_rfl) Tryd.func6
    (ChangeSpec.witness_shaped (enc := enc) (C := Tryd.checked) (os := os) (X := fun w _ => laidMetH Tryd.prog Rows.showLinesRow.laid w) false (World.doorLaid Tryd.prog 400 os) #[.slice none 0 0] 8 rfl (World.shaped_of_RefB (by kernel_rfl) (by kernel_rfl)) (by kernel_rfl) (by kernel_rfl) (by kernel_rfl) (door_met os _)) ?_
  intro W base args ds gs before hval0 hW _ _ hL _
  have hval : ∀ (j : Nat) t v, Tryd.f6.params[j]? = some t → args[j]? = some v → Value.okWide Tryd.prog W .any base t v := hval0
  have hW' := hW
  obtain ⟨p, q, hA0, hV, rfl, hfz, hnd⟩ := hW
  have hA : DataW.TrodAll enc Tryd.prog W 0 (fun _ => true) true Tryd.f6.params.toList args.toList ds p := hA0
  rw [Tryd.params6] at hA hval
  obtain ⟨v0, d0, rfl, rfl, t0⟩ := trodAll_one hA
  obtain ⟨rfl, rfl⟩ := trodVars_none hV
  have gt := gt_of hL
  obtain ⟨l0, h0, z0⟩ := arg_nodes (hval 0 22 v0 rfl rfl) t0
  have hcall := hcalls_of_callF Tryd.func6 rfl (by decide) ((showLines_spec h0 z0 gt))
  refine (calls_of_hcalls hcall (R := fun W' => Below W.heap.size W W') (fun W' hb => hb)).mono ?_
  rintro e W' ⟨v, rfl, rfl, hb⟩
  exact ⟨_, rfl, law_post laidOut (by rw [Tryd.params6]; intro t ht; simp at ht; subst ht; exact ⟨by kernel_rfl, of_decide_eq_true (by kernel_rfl)⟩) (tb := 4) (by kernel_rfl) Tryd.underlying4 rfl rfl rfl rfl hW' hb⟩

theorem said : Rows.ShowLinesSaid :=
  OpenClaim.holds_of_wide 6 Tryd.f6 rfl rfl rfl rfl rfl rfl rfl ⟨rfl, rfl, rfl, rfl, rfl⟩ rfl rfl rfl rfl rfl (by kernel_rfl) Tryd.func6 (by kernel_rfl)
    (of_decide_eq_true (by kernel_rfl)) (by unfold Func.isWrapper; first | (rw [if_pos (by decide +kernel)]; kernel_rfl) | (rw [if_neg (by decide +kernel)]; exact ⟨rfl, rfl⟩))
    (fun os started H enc _ => lifted os started H enc)
theorem proved : Rows.ShowLinesCardSaid :=
  Claim7.holds_tied_plain_at .later [] [.data, .data, .data, .data, .data] true (true, "d9db36a1a2fb3f620f4bbc409713c8e5579d8ff23c35a53dd233920b41e45cce") false
    said (fun _ h => by cases h) (by kernel_rfl) (fun _ h => by cases h) showLines_row_tie rfl ⟨rfl, rfl⟩ (by kernel_rfl) rfl
    (fun f fn hf hfn => by
      obtain rfl : f = 6 := Option.some.inj ((show Tryd.prog.funcNamed "weirgate/weirgatelaw10.ShowLines" = some 6 by kernel_rfl).symm.trans hf) |>.symm
      obtain rfl : fn = Tryd.f6 := (Option.some.inj (Tryd.func6.symm.trans hfn)).symm
      exact ⟨by kernel_rfl, fun j t ht => by
        have hm : t ∈ Tryd.f6.params.toList := by simpa using Array.mem_of_getElem? ht
        have hall : (Tryd.f6.params.toList.all fun u => !Tryd.prog.wantsStandIn u) = true := by kernel_rfl
        exact (show Tryd.prog.wantsStandIn t = false by simpa using List.all_eq_true.1 hall t hm)⟩)
    (by kernel_rfl)
#print axioms proved
end Go.Proofs.YtcffdpmmadipeaaDoor.showLines
