/- Proved: the card of the law ShowFixed: for every input it returns true, and its arguments read as they did; what its row lists is tied to the program's text. -/
import Derived.Test.YtcffdpmmadipeaaDoorMXC
import Derived.Test.YtcffdpmmadipeaaDoorMXA
import GoSem.ClaimData
import Derived.ChangeMaps5
import Derived.Test.YtcffdpmmadipeaaDoorMX3
import Derived.Test.YtcffdpmmadipeaaDoorCards
import Derived.Test.YtcffdpmmadipeaaDoorTie
import Derived.ProofKit
import Derived.LaidMore
import Derived.Stop.Joined
import Derived.SevenTiedAt

/- The laws ShowBack, ShowParts. -/
namespace Go.Proofs.YtcffdpmmadipeaaDoor
open Go.HL
set_option maxRecDepth 10000
set_option linter.unusedSimpArgs false
set_option linter.unusedVariables false

theorem parse_long {s : Str} (h : 4000 < s.length) : parseM 1 s = some ([], ⟨12, 0⟩) := by
  unfold parseM tokensM
  rw [if_pos h]
  rfl
theorem lay_few : ∀ (f : Fo) (a : Nat), f.ok = true → f.bare = true → ∀ x ∈ f.lay a, x.words.length ≤ 10 ∧ x.nums.length ≤ 10 ∧ x.kids.length ≤ f.cnt ∧ ∀ w ∈ x.words, w.length ≤ 12
  | .nil, _, _, _, x, hx => by simp [Fo.lay] at hx
  | .cons n k r, a, ho, hb, x, hx => by
    simp only [Fo.ok, Bool.and_eq_true] at ho
    simp only [Fo.bare, Bool.and_eq_true, decide_eq_true_eq] at hb
    simp only [Fo.lay, List.mem_cons, List.mem_append] at hx
    simp only [Fo.cnt]
    rcases hx with rfl | hx | hx
    · have h1 := okN_wl ho.1
      have h2 := okN_ul ho.1
      have h3 : wcount n.kind ≤ 10 := by unfold wcount; (repeat' split) <;> omega
      have h4 : (bnds n.kind).length ≤ 10 := by unfold bnds; (repeat' split) <;> simp
      have h5 := Fo.len_cnt k
      refine ⟨by show n.words.length ≤ 10; omega, by show n.nums.length ≤ 10; omega, ?_, okN_words ho.1⟩
      simp only [hb.1, List.nil_append, Fo.roots_len]
      omega
    · obtain ⟨a1, a2, a3, a4⟩ := lay_few k _ ho.2.1 hb.2.1 x hx
      exact ⟨a1, a2, by omega, a4⟩
    · obtain ⟨a1, a2, a3, a4⟩ := lay_few r _ ho.2.2 hb.2.2 x hx
      exact ⟨a1, a2, by omega, a4⟩
theorem RT.sz {n : Nd} {k : Fo} (h : RT n k) : Sz (layT n k) := by
  have hc := h.cnt
  have key : ∀ (i : Nat) x, (layT n k)[i]? = some x → x.words.length ≤ 10 ∧ x.nums.length ≤ 10 ∧ x.kids.length ≤ 800 ∧ ∀ w ∈ x.words, w.length ≤ 12 := by
    intro i x hx
    have := lay_few (.cons n k .nil) 0 h.ok h.bare x (List.mem_of_getElem? hx)
    simp only [Fo.cnt] at this
    exact ⟨this.1, this.2.1, by omega, this.2.2.2⟩
  exact ⟨by rw [layT_len]; omega, fun i x hx => by have := key i x hx; omega, fun i x hx => by have := key i x hx; omega, fun i x hx => by have := key i x hx; omega, fun i x hx w hw => by have := (key i x hx).2.2.2 w hw; omega⟩
section
variable {H : Heap} {S S' : Nat → Prop} {v v' : Value} {l l' : List Nd}
theorem flt_same {xo yo : Operand} {a b : Int} : binV Tryd.prog (full H) .eql 28 xo yo (.agg #[iv a, iv b]) (.agg #[iv 0, iv 0]) = some (.bool (decide (a = 0) && decide (b = 0))) := by
  have := (bin_struct (P := Tryd.prog) (H := H) (t := 28) (xs := [iv a, iv b]) (ys := [iv 0, iv 0]) (xo := xo) (yo := yo) rfl (by decide +kernel) (by decide +kernel) (eqF_int (by decide) rfl rfl rfl (eqF_int (by decide) rfl rfl rfl eqF_nil))).1
  simpa [Bool.decide_and] using this
theorem showBack_spec (h : NL H S v l) (hz : Sz l) (gt : GT H) : CallF Tryd.prog 3 [v] H (fun r H' => r = .bool true ∧ Fr [] H H') NoP := by
  refine callF_of Tryd.func3 rfl Tryd.ntmps3 Tryd.results3 (by decide) rfl ?_
  simp (disch := omega) only [go_sem, ↓cB, dB]
  refine call_to (w10awake_spec gt) ?_
  intro v H1 hv
  refine Hush.out ?_
  obtain ⟨rfl, f1⟩ := hv
  refine ⟨?_⟩
  simp (disch := omega) only [go_sem, ↓cB, dB]
  refine call_to (r9Small_spec (h.grow f1) hz) ?_
  intro v H2 hv
  refine Hush.out ?_
  obtain ⟨rfl, rfl⟩ := hv
  refine ⟨?_⟩
  have wake : ∀ {H' : Heap}, Fr [] H H' → CallF Tryd.prog 7 [] H' (fun r H'' => r = .bool true ∧ Fr [] H' H'') NoP := fun f => w10awake_spec (gt.grow f)
  cases hsm : smallM l with
  | false =>
    simp (disch := omega) only [go_sem, ↓cB, dB, hsm]
    refine call_to (wake f1) ?_
    intro v H3 hv
    refine Hush.out ?_
    obtain ⟨rfl, f3⟩ := hv
    refine ⟨?_⟩
    simp (disch := omega) only [go_sem, ↓cB, dB]
    exact fin ⟨rfl, f1.trans f3⟩
  | true =>
    simp (disch := omega) only [go_sem, ↓cB, dB, hsm]
    refine call_to (r9Right_spec (h.grow f1) hz) ?_
    intro v H3 hv
    refine Hush.out ?_
    obtain ⟨f3, rfl⟩ := hv
    refine ⟨?_⟩
    rw [← right_eq]
    cases hr : prRightM l with
    | false =>
      simp (disch := omega) only [go_sem, ↓cB, dB, hr]
      refine call_to (wake (f1.trans f3)) ?_
      intro v H4 hv
      refine Hush.out ?_
      obtain ⟨rfl, f4⟩ := hv
      refine ⟨?_⟩
      simp (disch := omega) only [go_sem, ↓cB, dB]
      exact fin ⟨rfl, (f1.trans f3).trans f4⟩
    | true =>
      obtain ⟨n, k, hrt, rfl⟩ := right_rt hr
      simp (disch := omega) only [go_sem, ↓cB, dB, hr]
      refine call_to (wShow_spec (h.grow (f1.trans f3)) hz (gt.grow (f1.trans f3))) ?_
      intro v H4 hv
      refine Hush.out ?_
      obtain ⟨f4, rfl⟩ := hv
      refine ⟨?_⟩
      rw [showM_lay hrt]
      have hlen := showT_len hrt
      simp (disch := omega) only [go_sem, ↓cB, dB]
      by_cases h4 : (showT k).length ≤ 4000
      · obtain ⟨j, k', p, e1, rt', ep, est⟩ := show_back hrt h4
        refine call_to (parse_spec ep) ?_
        intro v H5 hv
        refine Hush.out ?_
        obtain ⟨v1, rfl, f5, nl5⟩ := hv
        refine ⟨?_⟩
        have h4' : ¬ ((4000 : Int) < (showT k).length) := by omega
        simp (disch := omega) only [go_sem, ↓cB, dB, fltV, h4', decide_false, flt_same, decide_true, Bool.and_self]
        refine call_to (r9Like_spec (h.grow ((((f1.trans f3).trans f4).trans f5).trans Fr.push)) (nl5.grow Fr.push) est.symm hz) ?_
        intro v H6 hv
        refine Hush.out ?_
        obtain ⟨f6, rfl⟩ := hv
        refine ⟨?_⟩
        simp (disch := omega) only [go_sem, ↓cB, dB]
        exact fin ⟨rfl, (((((f1.trans f3).trans f4).trans f5).trans Fr.push).trans f6)⟩
      · refine call_to (parse_spec (parse_long (by omega))) ?_
        intro v H5 hv
        refine Hush.out ?_
        obtain ⟨v1, rfl, f5, nl5⟩ := hv
        refine ⟨?_⟩
        have h4' : (4000 : Int) < (showT k).length := by omega
        simp (disch := omega) only [go_sem, ↓cB, dB, fltV, h4', decide_true]
        exact fin ⟨rfl, (((f1.trans f3).trans f4).trans f5).trans Fr.push⟩
set_option maxHeartbeats 1000000 in
theorem showParts_spec (h : NL H S v l) (h' : NL H S' v' l') (hz : Sz l) (hz' : Sz l') (gt : GT H) : CallF Tryd.prog 5 [v, v'] H (fun r H' => r = .bool true ∧ Fr [] H H') NoP := by
  have wake : ∀ {H' : Heap}, Fr [] H H' → CallF Tryd.prog 7 [] H' (fun r H'' => r = .bool true ∧ Fr [] H' H'') NoP := fun f => w10awake_spec (gt.grow f)
  obtain ⟨av, cv, rfl⟩ := h.len
  obtain ⟨av', cv', rfl⟩ := h'.len
  have hzl := hz.len
  have hzl' := hz'.len
  refine callF_of Tryd.func5 rfl Tryd.ntmps5 Tryd.results5 (by decide) rfl ?_
  simp (disch := omega) only [go_sem, ↓cB, dB]
  refine call_to (w10awake_spec gt) ?_
  intro v H1 hv
  refine Hush.out ?_
  obtain ⟨rfl, f1⟩ := hv
  refine ⟨?_⟩
  simp (disch := omega) only [go_sem, ↓cB, dB]
  refine call_to (r9Small_spec (h.grow f1) hz) ?_
  intro v H2 hv
  refine Hush.out ?_
  obtain ⟨rfl, rfl⟩ := hv
  refine ⟨?_⟩
  cases hsm : smallM l with
  | false =>
    simp (disch := omega) only [go_sem, ↓cB, dB, hsm]
    refine call_to (wake f1) ?_
    intro v H3 hv
    refine Hush.out ?_
    obtain ⟨rfl, f3⟩ := hv
    refine ⟨?_⟩
    simp (disch := omega) only [go_sem, ↓cB, dB]
    exact fin ⟨rfl, f1.trans f3⟩
  | true =>
  simp (disch := omega) only [go_sem, ↓cB, dB, hsm]
  refine call_to (r9Small_spec (h'.grow f1) hz') ?_
  intro v H2 hv
  refine Hush.out ?_
  obtain ⟨rfl, rfl⟩ := hv
  refine ⟨?_⟩
  cases hsm' : smallM l' with
  | false =>
    simp (disch := omega) only [go_sem, ↓cB, dB, hsm']
    refine call_to (wake f1) ?_
    intro v H3 hv
    refine Hush.out ?_
    obtain ⟨rfl, f3⟩ := hv
    refine ⟨?_⟩
    simp (disch := omega) only [go_sem, ↓cB, dB]
    exact fin ⟨rfl, f1.trans f3⟩
  | true =>
  simp (disch := omega) only [go_sem, ↓cB, dB, hsm']
  refine call_to (r9Right_spec (h.grow f1) hz) ?_
  intro v H3 hv
  refine Hush.out ?_
  obtain ⟨f3, rfl⟩ := hv
  refine ⟨?_⟩
  rw [← right_eq]
  cases hr : prRightM l with
  | false =>
    simp (disch := omega) only [go_sem, ↓cB, dB, hr]
    refine call_to (wake (f1.trans f3)) ?_
    intro v H4 hv
    refine Hush.out ?_
    obtain ⟨rfl, f4⟩ := hv
    refine ⟨?_⟩
    simp (disch := omega) only [go_sem, ↓cB, dB]
    exact fin ⟨rfl, (f1.trans f3).trans f4⟩
  | true =>
  simp (disch := omega) only [go_sem, ↓cB, dB, hr]
  have f03 := f1.trans f3
  refine call_to (r9Right_spec (h'.grow f03) hz') ?_
  intro v H4 hv
  refine Hush.out ?_
  obtain ⟨f4, rfl⟩ := hv
  refine ⟨?_⟩
  have f04 := f03.trans f4
  rw [← right_eq]
  cases hr' : prRightM l' with
  | false =>
    simp (disch := omega) only [go_sem, ↓cB, dB, hr']
    refine call_to (wake f04) ?_
    intro v H5 hv
    refine Hush.out ?_
    obtain ⟨rfl, f5⟩ := hv
    refine ⟨?_⟩
    simp (disch := omega) only [go_sem, ↓cB, dB]
    exact fin ⟨rfl, f04.trans f5⟩
  | true =>
  obtain ⟨n, k, hrt, rfl⟩ := right_rt hr
  obtain ⟨n', k', hrt', rfl⟩ := right_rt hr'
  have hc := hrt.cnt
  have hc' := hrt'.cnt
  have e7 := layT_len (n := n) (k := k)
  have e7' := layT_len (n := n') (k := k')
  by_cases h7 : (700 : Int) < ((layT n k).length : Int) + ((layT n' k').length : Int)
  · simp (disch := omega) only [go_sem, ↓cB, dB, hr', h7, decide_true]
    refine call_to (wake f04) ?_
    intro v H5 hv
    refine Hush.out ?_
    obtain ⟨rfl, f5⟩ := hv
    refine ⟨?_⟩
    simp (disch := omega) only [go_sem, ↓cB, dB]
    exact fin ⟨rfl, f04.trans f5⟩
  simp (disch := omega) only [go_sem, ↓cB, dB, hr', h7, decide_false]
  have hla := showT_len hrt
  have hlb := showT_len hrt'
  refine call_to (wShow_spec (h.grow f04) hz (gt.grow f04)) ?_
  intro v H5 hv
  refine Hush.out ?_
  obtain ⟨f5, rfl⟩ := hv
  refine ⟨?_⟩
  have f05 := f04.trans f5
  rw [showM_lay hrt]
  simp (disch := omega) only [go_sem, ↓cB, dB]
  refine call_to (wShow_spec (h'.grow f05) hz' (gt.grow f05)) ?_
  intro v H6 hv
  refine Hush.out ?_
  obtain ⟨f6, rfl⟩ := hv
  refine ⟨?_⟩
  have f06 := f05.trans f6
  rw [showM_lay hrt']
  simp (disch := omega) only [go_sem, ↓cB, dB, List.length_append]
  by_cases h4 : (showT k ++ showT k').length ≤ 4000
  · obtain ⟨j, m, p, e1, rt', ep⟩ := show_two hrt hrt' (by omega) h4
    refine call_to (parse_spec ep) ?_
    intro v H7 hv
    refine Hush.out ?_
    obtain ⟨v1, rfl, f7, nl7⟩ := hv
    refine ⟨?_⟩
    have f07 := (f06.trans f7).trans (Fr.push (o := .cells #[iv 0, iv 0] 28))
    simp (disch := omega) only [go_sem, ↓cB, dB, fltV]
    refine call_to (wShow_spec (nl7.grow Fr.push) rt'.sz (gt.grow f07)) ?_
    intro v H8 hv
    refine Hush.out ?_
    obtain ⟨f8, rfl⟩ := hv
    refine ⟨?_⟩
    have f08 := f07.trans f8
    rw [showM_lay rt', show_app e1]
    simp (disch := omega) only [go_sem, ↓cB, dB]
    refine call_to (wShow_spec (h.grow f08) hz (gt.grow f08)) ?_
    intro v H9 hv
    refine Hush.out ?_
    obtain ⟨f9, rfl⟩ := hv
    refine ⟨?_⟩
    have f09 := f08.trans f9
    rw [showM_lay hrt]
    simp (disch := omega) only [go_sem, ↓cB, dB]
    refine call_to (wShow_spec (h'.grow f09) hz' (gt.grow f09)) ?_
    intro v H10 hv
    refine Hush.out ?_
    obtain ⟨f10, rfl⟩ := hv
    refine ⟨?_⟩
    rw [showM_lay hrt']
    simp (disch := omega) only [go_sem, ↓cB, dB, List.length_append, decide_true]
    exact fin ⟨rfl, f09.trans f10⟩
  · refine call_to (parse_spec (parse_long (by omega))) ?_
    intro v H7 hv
    refine Hush.out ?_
    obtain ⟨v1, rfl, f7, nl7⟩ := hv
    refine ⟨?_⟩
    simp (disch := omega) only [go_sem, ↓cB, dB, fltV]
    exact fin ⟨rfl, (f06.trans f7).trans Fr.push⟩
end
end Go.Proofs.YtcffdpmmadipeaaDoor


/- The document's parser comes to an answer at any text: tokens, expressions (plain). -/
namespace Go.Proofs.YtcffdpmmadipeaaDoor
open Go.HL
set_option maxRecDepth 10000
set_option linter.unusedSimpArgs false
set_option linter.unusedVariables false

theorem two_bt {s : Str} {i : Nat} {a b : UInt8} (h : twoM s i = [a, b]) : bt8 s i = a := by
  have hl := two_len h (by simp)
  unfold twoM at h
  rw [if_pos hl] at h
  have h0 := congrArg (fun l => l[0]?) h
  simp only [List.getElem?_drop, Nat.add_zero, List.getElem?_cons_zero] at h0
  rw [List.getElem?_take_of_lt (by omega)] at h0
  unfold bt8
  rw [List.getD_eq_getElem?_getD, h0]; rfl
theorem tokM_total : ∀ (m : Nat) (s : Str) (i : Nat) (out : List Tok), s.length - i ≤ m → ∃ r, ∀ n, m < n → tokM s n i out = some r
  | m, s, i, out, hm => by
    by_cases h : i < s.length
    · obtain ⟨m, rfl⟩ : ∃ j, m = j + 1 := ⟨m - 1, by omega⟩
      have step : ∀ (i' : Nat) (out' : List Tok), i < i' → (∀ n, tokM s (n + 1) i out = tokM s n i' out') → ∃ r, ∀ n, m + 1 < n → tokM s n i out = some r := by
        intro i' out' h1 h2
        obtain ⟨r, hr⟩ := tokM_total m s i' out' (by omega)
        refine ⟨r, fun n hn => ?_⟩
        obtain ⟨k, rfl⟩ : ∃ k, n = k + 1 := ⟨n - 1, by omega⟩
        rw [h2]
        exact hr k (by omega)
      by_cases h1 : blankS.any (· == bt8 s i) = true
      · exact step (i + 1) out (by omega) (fun n => by rw [tokM, if_pos h, if_pos h1])
      · by_cases h2 : twoM s i = [47, 47]
        · have := two_bt h2
          have e : spanM notNl s i = spanM notNl s (i + 1) := span_yes h (by rw [this]; rfl)
          have g := span_ge (p := notNl) (s := s) (k := i + 1)
          exact step (spanM notNl s i) out (by omega) (fun n => by rw [tokM, if_pos h, if_neg h1, if_pos h2])
        · by_cases h3 : (tokEnd s i).1 = i ∨ (tokEnd s i).2 = 1 ∧ 6 < (tokEnd s i).1 - i
          · refine ⟨([], ⟨10, i⟩), fun n hn => ?_⟩
            obtain ⟨k, rfl⟩ : ∃ k, n = k + 1 := ⟨n - 1, by omega⟩
            rw [tokM, if_pos h, if_neg h1, if_neg h2, if_pos h3]
          · have := tokEnd_le h
            have h4 : ¬ (tokEnd s i).1 = i := fun e => h3 (.inl e)
            exact step (tokEnd s i).1 _ (by omega) (fun n => by rw [tokM, if_pos h, if_neg h1, if_neg h2, if_neg h3])
    · refine ⟨(out ++ [⟨3, [], s.length⟩], ⟨0, 0⟩), fun n hn => ?_⟩
      obtain ⟨k, rfl⟩ : ∃ k, n = k + 1 := ⟨n - 1, by omega⟩
      rw [tokM, if_neg h]
theorem tokens_total (s : Str) : ∃ r, ∀ n, s.length < n → tokensM n s = some r := by
  unfold tokensM
  split
  · exact ⟨_, fun _ _ => rfl⟩
  · exact tokM_total s.length s 0 [] (by omega)
/-- No text of a token is longer. -/
theorem tokM_short : ∀ (n : Nat) (s : Str) (i : Nat) (out : List Tok) (r : List Tok × Flt), tokM s n i out = some r → (∀ t ∈ out, t.s.length ≤ s.length) → ∀ t ∈ r.1, t.s.length ≤ s.length
  | 0, s, i, out, r, h, _ => by simp [tokM] at h
  | n + 1, s, i, out, r, h, ho => by
    unfold tokM at h
    split at h
    · split at h
      · exact tokM_short n s _ out r h ho
      · split at h
        · exact tokM_short n s _ out r h ho
        · split at h
          · simp only [Option.some.injEq] at h; subst h; simp
          · refine tokM_short n s _ _ r h ?_
            intro t ht
            rw [List.mem_append] at ht
            rcases ht with ht | ht
            · exact ho t ht
            · simp only [List.mem_singleton] at ht
              subst ht
              simp only [List.length_drop, List.length_take]
              omega
    · simp only [Option.some.injEq] at h
      subst h
      intro t ht
      rw [List.mem_append] at ht
      rcases ht with ht | ht
      · exact ho t ht
      · simp only [List.mem_singleton] at ht; subst ht; simp

def tameN (n : Nd) : Bool := decide (n.words.length ≤ 2) && (decide (n.nums.length ≤ 4) && (n.words.all (fun w => decide (w.length ≤ 4000)) && decide (n.kids = [])))
def Fo.tame : Fo → Bool
  | .nil => true
  | .cons n k r => tameN n && (k.tame && r.tame)
def tameT (t : TT) : Bool := tameN t.1 && t.2.tame
theorem Fo.snoc_tame : ∀ (f : Fo) (n : Nd) (k : Fo), (f.snoc n k).tame = (f.tame && (tameN n && k.tame))
  | .nil, n, k => by simp [Fo.snoc, Fo.tame]
  | .cons m l r, n, k => by simp only [Fo.snoc, Fo.tame, Fo.snoc_tame r, Bool.and_assoc]
theorem Fo.snoc_cnt : ∀ (f : Fo) (n : Nd) (k : Fo), (f.snoc n k).cnt = f.cnt + (1 + k.cnt)
  | .nil, n, k => by simp [Fo.snoc, Fo.cnt]
  | .cons m l r, n, k => by simp only [Fo.snoc, Fo.cnt, Fo.snoc_cnt r]; omega
theorem addT_tame {t u : TT} (h : tameT t = true) (h' : tameT u = true) : tameT (addT t u) = true := by
  unfold tameT addT at *
  simp only [Bool.and_eq_true, Fo.snoc_tame] at *
  exact ⟨h.1, h.2, h'.1, h'.2⟩
theorem bin_tame {m : Int} {a b : TT} (h : tameT a = true) (h' : tameT b = true) : tameT (binM m a b) = true := by
  unfold tameT binM at *
  simp only [Bool.and_eq_true, Fo.tame, Bool.and_true] at *
  exact ⟨rfl, h.1, h.2, h'.1, h'.2⟩
def Gd (L : List Tok) (s : PS) : Prop := s.pos < L.length ∧ 0 ≤ s.deep ∧ s.deep ≤ 200
/-- What a function of the parser does with the place, the depth, the fault. -/
structure Nx (L : List Tok) (s s' : PS) : Prop where
  pos : s.pos ≤ s'.pos
  lt : s'.pos < L.length
  deep : s'.deep = s.deep
  ok : okM s' = true → okM s = true
/-- The same with a tree, so many nodes of which were there. -/
structure RQ (L : List Tok) (b : Nat) (s : PS) (r : TT × PS) : Prop where
  nx : Nx L s r.2
  tame : tameT r.1 = true
  cnt : okM r.2 = true → 1 + r.1.2.cnt + s.pos ≤ b + r.2.pos
section
variable {L : List Tok} {s s1 s2 : PS} {w : Str} {e : Int}
theorem Nx.refl (h : s.pos < L.length) : Nx L s s := ⟨Nat.le_refl _, h, rfl, id⟩
theorem Nx.trans (h : Nx L s s1) (h' : Nx L s1 s2) : Nx L s s2 := ⟨Nat.le_trans h.pos h'.pos, h'.lt, h'.deep.trans h.deep, fun x => h.ok (h'.ok x)⟩
theorem Nx.gd (h : Nx L s s1) (g : Gd L s) : Gd L s1 := ⟨h.lt, by rw [h.deep]; exact g.2.1, by rw [h.deep]; exact g.2.2⟩
theorem tk_some (h : s.pos < L.length) : L[s.pos]? = some (tkM L s) := by
  unfold tkM; rw [List.getD_eq_getElem?_getD, List.getElem?_eq_getElem h]; rfl
theorem sees_lt (hW : TW L) (h : s.pos < L.length) (hs : seesM L w s = true) : s.pos + 1 < L.length := by
  refine hW.fin s.pos _ (tk_some h) ?_
  unfold seesM at hs
  intro e
  simp [e] at hs
theorem sees_ok (hs : seesM L w s = true) : okM s = true := by
  unfold seesM at hs
  simp only [Bool.and_eq_true] at hs
  exact hs.1.1
theorem nx_up (h : s.pos + 1 < L.length) : Nx L s (upM s) := ⟨by simp [upM], h, rfl, id⟩
theorem bad_ok (he : e ≠ 0) : okM (badM L e s) = false := by
  unfold badM okM
  split
  · simp [he]
  · rename_i h; simp [h]
theorem nx_bad (h : s.pos < L.length) (he : e ≠ 0) : Nx L s (badM L e s) := by
  refine ⟨?_, ?_, ?_, fun x => by rw [bad_ok he] at x; cases x⟩ <;> (unfold badM; split <;> first | exact Nat.le_refl _ | exact h | rfl)
theorem nx_must (hW : TW L) (h : s.pos < L.length) : Nx L s (mustM L w s) := by
  unfold mustM
  split
  · rename_i hs; exact nx_up (sees_lt hW h hs)
  · exact nx_bad h (by simp)
theorem must_go (h : okM (mustM L w s) = true) : s.pos < (mustM L w s).pos := by
  unfold mustM at h ⊢
  split
  · simp [upM]
  · rename_i hs; rw [if_neg hs, bad_ok (by simp)] at h; cases h
theorem isName_lt (hW : TW L) (h : s.pos < L.length) (hs : isName L s = true) : s.pos + 1 < L.length := by
  refine hW.fin s.pos _ (tk_some h) ?_
  unfold isName at hs
  intro e
  simp [e] at hs
theorem isNum_lt (hW : TW L) (h : s.pos < L.length) (hs : isNum L s = true) : s.pos + 1 < L.length := by
  refine hW.fin s.pos _ (tk_some h) ?_
  unfold isNum at hs
  intro e
  simp [e] at hs
theorem nx_name (hW : TW L) (h : s.pos < L.length) : Nx L s (pnameM L s).2 := by
  unfold pnameM
  split
  · rename_i hs; exact nx_up (isName_lt hW h hs)
  · exact nx_bad h (by simp)
theorem nx_num (hW : TW L) (h : s.pos < L.length) : Nx L s (pnumM L s).2 := by
  unfold pnumM
  split
  · rename_i hs; exact nx_up (isNum_lt hW h hs)
  · exact nx_bad h (by simp)
theorem nx_flag (hW : TW L) (h : s.pos < L.length) : Nx L s (flagM L w s).2 := by
  unfold flagM
  split
  · rename_i hs; exact nx_up (sees_lt hW h hs)
  · exact Nx.refl h
theorem name_go (h : okM (pnameM L s).2 = true) : s.pos < (pnameM L s).2.pos := by
  unfold pnameM at h ⊢
  split
  · simp [upM]
  · rename_i hs; rw [if_neg hs, bad_ok (by simp)] at h; cases h
theorem num_go (h : okM (pnumM L s).2 = true) : s.pos < (pnumM L s).2.pos := by
  unfold pnumM at h ⊢
  split
  · simp [upM]
  · rename_i hs; rw [if_neg hs, bad_ok (by simp)] at h; cases h
theorem name_len (hS : ∀ t ∈ L, t.s.length ≤ 4000) (h : s.pos < L.length) : (pnameM L s).1.length ≤ 4000 := by
  unfold pnameM
  split
  · exact hS _ (List.mem_of_getElem? (tk_some h))
  · simp
/-- One deeper. -/
theorem in_cases (g : Gd L s) : (okM (inM L s) = true ∧ inM L s = { s with deep := s.deep + 1 } ∧ Gd L (inM L s) ∧ okM s = true) ∨ (okM (inM L s) = false ∧ (inM L s).deep = s.deep + 1 ∧ (inM L s).pos = s.pos) := by
  unfold inM
  by_cases h : 200 < s.deep + 1
  · rw [if_pos h]
    refine .inr ⟨bad_ok (by simp), ?_, ?_⟩ <;> (unfold badM; split <;> rfl)
  · rw [if_neg h]
    cases q : okM s
    · exact .inr ⟨q, rfl, rfl⟩
    · exact .inl ⟨q, rfl, ⟨g.1, by show 0 ≤ s.deep + 1; have := g.2.1; omega, by show s.deep + 1 ≤ 200; omega⟩, rfl⟩
theorem leaf_tame {k : Int} {ws : List Str} {us : List Int} {p : Int} (h1 : ws.length ≤ 2) (h2 : us.length ≤ 4) (h3 : ∀ w ∈ ws, w.length ≤ 4000) : tameN ⟨k, ws, us, [], p⟩ = true := by
  unfold tameN
  simp only [Bool.and_eq_true, decide_eq_true_eq, List.all_eq_true]
  exact ⟨h1, h2, h3, trivial⟩
end
/-- How many nodes are there ahead, in an expression that goes on? -/
def baseE : Cm → Nat
  | .orL a => 1 + a.2.cnt
  | .andL a => 1 + a.2.cnt
  | .sumL a => 1 + a.2.cnt
  | .prodL a => 1 + a.2.cnt
  | _ => 0
def tameE : Cm → Bool
  | .orL a => tameT a
  | .andL a => tameT a
  | .sumL a => tameT a
  | .prodL a => tameT a
  | _ => true
section
variable {L : List Tok}
theorem RQ.then {b : Nat} {s : PS} {r r2 : TT × PS} (h : RQ L b s r) (h' : RQ L (1 + r.1.2.cnt) r.2 r2) : RQ L b s r2 :=
  ⟨h.nx.trans h'.nx, h'.tame, fun x => by have h1 := h'.cnt x; have h2 := h.cnt (h'.nx.ok x); omega⟩
/-- A sign, and what stands behind it. -/
theorem RQ.bin {a : TT} {m : Int} {s : PS} {r : TT × PS} (hl : s.pos + 1 < L.length) (ha : tameT a = true) (h : RQ L 0 (upM s) r) : RQ L (1 + a.2.cnt) s (binM m a r.1, r.2) :=
  ⟨(nx_up hl).trans h.nx, bin_tame ha h.tame, fun x => by
    have := h.cnt x
    have hu : (upM s).pos = s.pos + 1 := rfl
    simp only [binM, Fo.cnt]
    omega⟩
def TotE (L : List Tok) (m : Nat) (c : Cm) : Prop := ∀ s, L.length - s.pos ≤ m → Gd L s → tameE c = true → ∃ r, Ev L c s r ∧ RQ L (baseE c) s r
theorem go_left {m : Nat} {s : PS} (h : L.length - s.pos ≤ m + 1) (h2 : s.pos < L.length) : L.length - (upM s).pos ≤ m := by
  have : (upM s).pos = s.pos + 1 := rfl
  omega
set_option maxHeartbeats 1000000 in
theorem tot_part (hW : TW L) (hS : ∀ t ∈ L, t.s.length ≤ 4000) {m : Nat} (IH : ∀ c, TotE L m c) : TotE L (m + 1) .part := by
  intro s hm g _
  have hd : ¬ (s.deep < -1000000000 ∨ 1000000000 < s.deep) := by have := g.2.1; have := g.2.2; omega
  by_cases h1 : isNum L s = true
  · refine ⟨_, ev_step ⟨0, fun n _ => by simp only [stepE]; rw [if_pos h1]⟩, ⟨nx_num hW g.1, ?_, fun x => ?_⟩⟩
    · unfold tameT; rw [Bool.and_eq_true]; exact ⟨leaf_tame (by simp) (by simp) (by simp), rfl⟩
    · have := num_go x; simp only [Fo.cnt, baseE]; omega
  by_cases h2 : seesM L [108, 101, 110] s = true
  · have hl := sees_lt hW g.1 h2
    have gu := (nx_up hl).gd g
    refine ⟨_, ev_step ⟨0, fun n _ => by simp only [stepE]; rw [if_neg h1, if_pos h2]⟩, ⟨(nx_up hl).trans (nx_name hW gu.1), ?_, fun x => ?_⟩⟩
    · unfold tameT nameT; rw [Bool.and_eq_true]; exact ⟨leaf_tame (by simp) (by simp) (by have := name_len hS gu.1; simpa using this), rfl⟩
    · have := name_go x; simp only [nameT, Fo.cnt, baseE] at this ⊢; have hu : (upM s).pos = s.pos + 1 := rfl; omega
  by_cases h3 : (seesM L [45] s || seesM L [33] s) = true
  · have hl : s.pos + 1 < L.length := by
      rw [Bool.or_eq_true] at h3
      exact h3.elim (sees_lt hW g.1) (sees_lt hW g.1)
    have gu := (nx_up hl).gd g
    rcases in_cases gu with ⟨q1, q2, q3, q4⟩ | ⟨q1, q2, q3⟩
    · obtain ⟨r, ⟨n0, e1⟩, hr⟩ := IH .part (inM L (upM s)) (by rw [q2]; exact go_left hm g.1) q3 rfl
      have dr := hr.nx.deep
      have di : (inM L (upM s)).deep = s.deep + 1 := by rw [q2]; rfl
      have dp : (inM L (upM s)).pos = s.pos + 1 := by rw [q2]; rfl
      have hd2 : ¬ (r.2.deep < -1000000000 ∨ 1000000000 < r.2.deep) := by rw [dr, di]; have := g.2.1; have := g.2.2; omega
      refine ⟨((⟨if seesM L [45] s then 20 else 21, [], [], [], (tkM L s).pos⟩, .cons r.1.1 r.1.2 .nil), outM r.2), ev_step ⟨n0, fun n hn => by simp only [stepE]; rw [if_neg h1, if_neg h2, if_pos h3, if_neg hd, if_pos q1, e1 n hn]; simp only [Option.bind_some]; rw [if_neg hd2]⟩, ⟨⟨?_, hr.nx.lt, ?_, fun x => q4⟩, ?_, fun x => ?_⟩⟩
      · have := hr.nx.pos; rw [dp] at this; show s.pos ≤ r.2.pos; omega
      · show r.2.deep - 1 = s.deep; omega
      · have ht := hr.tame
        unfold tameT at ht ⊢; rw [Bool.and_eq_true] at ht ⊢; exact ⟨leaf_tame (by simp) (by simp) (by simp), by simp only [Fo.tame, ht.1, ht.2, Bool.and_self]⟩
      · have h5 := hr.cnt x
        have h6 : (outM r.2).pos = r.2.pos := rfl
        simp only [Fo.cnt, baseE, h6] at h5 ⊢; omega
    · refine ⟨_, ev_step ⟨0, fun n hn => by simp only [stepE]; rw [if_neg h1, if_neg h2, if_pos h3, if_neg hd, if_neg (by rw [q1]; simp)]⟩, ⟨⟨?_, ?_, ?_, fun x => ?_⟩, ?_, fun x => ?_⟩⟩
      · show s.pos ≤ (inM L (upM s)).pos; rw [q3]; show s.pos ≤ s.pos + 1; omega
      · show (inM L (upM s)).pos < L.length; rw [q3]; exact hl
      · show (inM L (upM s)).deep - 1 = s.deep; rw [q2]; show s.deep + 1 - 1 = s.deep; omega
      · have : okM (outM (inM L (upM s))) = okM (inM L (upM s)) := rfl
        rw [this, q1] at x; cases x
      · unfold tameT; rw [Bool.and_eq_true]; exact ⟨leaf_tame (by simp) (by simp) (by simp), rfl⟩
      · have : okM (outM (inM L (upM s))) = okM (inM L (upM s)) := rfl
        rw [this, q1] at x; cases x
  by_cases h4 : seesM L [40] s = true
  · have hl := sees_lt hW g.1 h4
    have gu := (nx_up hl).gd g
    rcases in_cases gu with ⟨q1, q2, q3, q4⟩ | ⟨q1, q2, q3⟩
    · obtain ⟨r, ⟨n0, e1⟩, hr⟩ := IH .expr (inM L (upM s)) (by rw [q2]; exact go_left hm g.1) q3 rfl
      have dr := hr.nx.deep
      have di : (inM L (upM s)).deep = s.deep + 1 := by rw [q2]; rfl
      have dp : (inM L (upM s)).pos = s.pos + 1 := by rw [q2]; rfl
      have hd2 : ¬ (r.2.deep < -1000000000 ∨ 1000000000 < r.2.deep) := by rw [dr, di]; have := g.2.1; have := g.2.2; omega
      have n1 : Nx L s (outM r.2) := ⟨by have := hr.nx.pos; rw [dp] at this; show s.pos ≤ r.2.pos; omega, hr.nx.lt, by show r.2.deep - 1 = s.deep; omega, fun _ => q4⟩
      refine ⟨(r.1, mustM L [41] (outM r.2)), ev_step ⟨n0, fun n hn => by simp only [stepE]; rw [if_neg h1, if_neg h2, if_neg h3, if_pos h4, if_neg hd, if_pos q1, e1 n hn]; simp only [Option.bind_some]; rw [if_neg hd2]⟩, ⟨n1.trans (nx_must hW n1.lt), hr.tame, fun x => ?_⟩⟩
      have h5 := hr.cnt ((nx_must hW n1.lt).ok x)
      have h6 : (outM r.2).pos = r.2.pos := rfl
      have h7 := (nx_must (w := [41]) hW n1.lt).pos
      simp only [baseE] at h5 ⊢; omega
    · have n1 : Nx L s (outM (inM L (upM s))) := ⟨by show s.pos ≤ (inM L (upM s)).pos; rw [q3]; show s.pos ≤ s.pos + 1; omega, by show (inM L (upM s)).pos < L.length; rw [q3]; exact hl, by show (inM L (upM s)).deep - 1 = s.deep; rw [q2]; show s.deep + 1 - 1 = s.deep; omega, fun _ => sees_ok h4⟩
      refine ⟨_, ev_step ⟨0, fun n hn => by simp only [stepE]; rw [if_neg h1, if_neg h2, if_neg h3, if_pos h4, if_neg hd, if_neg (by rw [q1]; simp)]⟩, ⟨n1.trans (nx_must hW n1.lt), ?_, fun x => ?_⟩⟩
      · unfold tameT beginM; rw [Bool.and_eq_true]; exact ⟨leaf_tame (by simp) (by simp) (by simp), rfl⟩
      · have h5 := (nx_must hW n1.lt).ok x
        have : okM (outM (inM L (upM s))) = okM (inM L (upM s)) := rfl
        rw [this, q1] at h5; cases h5
  · refine ⟨_, ev_step ⟨0, fun n _ => by simp only [stepE]; rw [if_neg h1, if_neg h2, if_neg h3, if_neg h4]⟩, ⟨nx_name hW g.1, ?_, fun x => ?_⟩⟩
    · unfold tameT nameT; rw [Bool.and_eq_true]; exact ⟨leaf_tame (by simp) (by simp) (by have := name_len hS g.1; simpa using this), rfl⟩
    · have := name_go x; simp only [nameT, Fo.cnt, baseE] at this ⊢; omega
theorem tot_two {m : Nat} {c c1 : Cm} {c2 : TT → Cm} (hc : ∀ ih s, stepE L ih c s = (ih c1 s).bind fun r => ih (c2 r.1) r.2) (hb : baseE c = 0) (hb1 : baseE c1 = 0) (ht1 : tameE c1 = true) (hb2 : ∀ a, baseE (c2 a) = 1 + a.2.cnt) (ht2 : ∀ a, tameE (c2 a) = tameT a)
    (h1 : TotE L m c1) (h2 : ∀ a, TotE L m (c2 a)) : TotE L m c := by
  intro s hm g _
  obtain ⟨r, e1, q1⟩ := h1 s hm g ht1
  rw [hb1] at q1
  obtain ⟨r2, e2, q2⟩ := h2 r.1 r.2 (by have := q1.nx.pos; omega) (q1.nx.gd g) (by rw [ht2]; exact q1.tame)
  rw [hb2] at q2
  exact ⟨r2, ev_two hc e1 e2, by rw [hb]; exact q1.then q2⟩
theorem tot_loop (hW : TW L) {m : Nat} {a : TT} {c c1 : Cm} {c2 : TT → Cm} {s : PS} {w : Str} {k : Int} (hs : seesM L w s = true) (hc : ∀ ih, stepE L ih c s = (ih c1 (upM s)).bind fun r => ih (c2 r.1) r.2) (hc2 : ∀ b, baseE (c2 b) = 1 + (binM k a b).2.cnt) (ht2 : ∀ b, tameE (c2 b) = tameT (binM k a b))
    (hb1 : baseE c1 = 0) (ht1 : tameE c1 = true) (ht : tameT a = true) (IH : ∀ c, TotE L m c) (hm : L.length - s.pos ≤ m + 1) (g : Gd L s) : ∃ r, Ev L c s r ∧ RQ L (1 + a.2.cnt) s r := by
  have hl := sees_lt hW g.1 hs
  obtain ⟨r, e1, q1⟩ := IH c1 (upM s) (go_left hm g.1) ((nx_up hl).gd g) ht1
  rw [hb1] at q1
  have q3 : RQ L (1 + a.2.cnt) s (binM k a r.1, r.2) := RQ.bin hl ht q1
  obtain ⟨r2, e2, q2⟩ := IH (c2 r.1) r.2 (by have := q1.nx.pos; have := go_left hm g.1; omega) (q1.nx.gd ((nx_up hl).gd g)) (by rw [ht2]; exact q3.tame)
  rw [hc2] at q2
  exact ⟨r2, ev_go hc e1 e2, q3.then (r := (binM k a r.1, r.2)) q2⟩
theorem tot_stop {a : TT} {s : PS} (g : Gd L s) (ht : tameT a = true) : RQ L (1 + a.2.cnt) s (a, s) := ⟨Nx.refl g.1, ht, fun _ => Nat.le_refl _⟩
theorem tot_once (hW : TW L) {m : Nat} {c c1 : Cm} {w : Str} {k : Int} (hc : ∀ ih s, stepE L ih c s = (ih c1 s).bind fun r => if seesM L w r.2 then (ih c1 (upM r.2)).map fun q => (binM k r.1 q.1, q.2) else some r)
    (hb : baseE c = 0) (hb1 : baseE c1 = 0) (ht1 : tameE c1 = true) (h1 : TotE L (m + 1) c1) (IH : ∀ c, TotE L m c) : TotE L (m + 1) c := by
  intro s hm g _
  obtain ⟨r, e1, q1⟩ := h1 s hm g ht1
  rw [hb1] at q1
  rw [hb]
  have gr := q1.nx.gd g
  cases q : seesM L w r.2
  · exact ⟨r, ev_once_stop hc e1 q, q1⟩
  · have hl := sees_lt hW gr.1 q
    obtain ⟨r2, e2, q2⟩ := IH c1 (upM r.2) (go_left (by have := q1.nx.pos; omega) gr.1) ((nx_up hl).gd gr) ht1
    rw [hb1] at q2
    exact ⟨_, ev_once_go hc e1 q e2, q1.then (RQ.bin hl q1.tame q2)⟩
set_option maxHeartbeats 1000000 in
/-- An expression comes to an end. -/
theorem ev_total (hW : TW L) (hS : ∀ t ∈ L, t.s.length ≤ 4000) : ∀ (m : Nat) (c : Cm), TotE L m c := by
  intro m
  induction m with
  | zero => intro c s hm g _; have := g.1; omega
  | succ m IH =>
    have hpart := tot_part hW hS IH
    have hprodL : ∀ a, TotE L (m + 1) (.prodL a) := by
      intro a s hm g ht
      cases h1 : seesM L [42] s
      · cases h2 : seesM L [47] s
        · cases h3 : seesM L [37] s
          · exact ⟨_, ev_prodL_stop h1 h2 h3, tot_stop g ht⟩
          · exact tot_loop (a := a) (k := 8) (c1 := .part) (c2 := fun b => .prodL (binM 8 a b)) hW h3 (fun ih => by simp [stepE, h1, h2, h3]) (fun _ => rfl) (fun _ => rfl) rfl rfl ht IH hm g
        · exact tot_loop (a := a) (k := 7) (c1 := .part) (c2 := fun b => .prodL (binM 7 a b)) hW h2 (fun ih => by simp [stepE, h1, h2]) (fun _ => rfl) (fun _ => rfl) rfl rfl ht IH hm g
      · exact tot_loop (a := a) (k := 6) (c1 := .part) (c2 := fun b => .prodL (binM 6 a b)) hW h1 (fun ih => by simp [stepE, h1]) (fun _ => rfl) (fun _ => rfl) rfl rfl ht IH hm g
    have hproduct : TotE L (m + 1) .product := tot_two (c1 := .part) (c2 := .prodL) (fun _ _ => rfl) rfl rfl rfl (fun _ => rfl) (fun _ => rfl) hpart hprodL
    have hsumL : ∀ a, TotE L (m + 1) (.sumL a) := by
      intro a s hm g ht
      cases h1 : seesM L [43] s
      · cases h2 : seesM L [45] s
        · exact ⟨_, ev_sumL_stop h1 h2, tot_stop g ht⟩
        · exact tot_loop (a := a) (k := 5) (c1 := .product) (c2 := fun b => .sumL (binM 5 a b)) hW h2 (fun ih => by simp [stepE, h1, h2]) (fun _ => rfl) (fun _ => rfl) rfl rfl ht IH hm g
      · exact tot_loop (a := a) (k := 4) (c1 := .product) (c2 := fun b => .sumL (binM 4 a b)) hW h1 (fun ih => by simp [stepE, h1]) (fun _ => rfl) (fun _ => rfl) rfl rfl ht IH hm g
    have hsum : TotE L (m + 1) .sum := tot_two (c1 := .product) (c2 := .sumL) (fun _ _ => rfl) rfl rfl rfl (fun _ => rfl) (fun _ => rfl) hproduct hsumL
    have hless : TotE L (m + 1) .less := tot_once (c1 := .sum) (k := 3) hW (fun _ _ => rfl) rfl rfl rfl hsum IH
    have hsame : TotE L (m + 1) .same := tot_once (c1 := .less) (k := 2) hW (fun _ _ => rfl) rfl rfl rfl hless IH
    have handL : ∀ a, TotE L (m + 1) (.andL a) := by
      intro a s hm g ht
      cases h1 : seesM L [38, 38] s
      · exact ⟨_, ev_andL_stop h1, tot_stop g ht⟩
      · exact tot_loop (a := a) (k := 1) (c1 := .same) (c2 := fun b => .andL (binM 1 a b)) hW h1 (fun ih => by simp [stepE, h1]) (fun _ => rfl) (fun _ => rfl) rfl rfl ht IH hm g
    have hand : TotE L (m + 1) .and := tot_two (c1 := .same) (c2 := .andL) (fun _ _ => rfl) rfl rfl rfl (fun _ => rfl) (fun _ => rfl) hsame handL
    have horL : ∀ a, TotE L (m + 1) (.orL a) := by
      intro a s hm g ht
      cases h1 : seesM L [124, 124] s
      · exact ⟨_, ev_orL_stop h1, tot_stop g ht⟩
      · exact tot_loop (a := a) (k := 0) (c1 := .and) (c2 := fun b => .orL (binM 0 a b)) hW h1 (fun ih => by simp [stepE, h1]) (fun _ => rfl) (fun _ => rfl) rfl rfl ht IH hm g
    have hexpr : TotE L (m + 1) .expr := tot_two (c1 := .and) (c2 := .orL) (fun _ _ => rfl) rfl rfl rfl (fun _ => rfl) (fun _ => rfl) hand horL
    intro c
    cases c with
    | expr => exact hexpr
    | and => exact hand
    | same => exact hsame
    | less => exact hless
    | sum => exact hsum
    | product => exact hproduct
    | part => exact hpart
    | orL a => exact horL a
    | andL a => exact handL a
    | sumL a => exact hsumL a
    | prodL a => exact hprodL a
end
end Go.Proofs.YtcffdpmmadipeaaDoor


/- The document's parser comes to an answer at any text: statements, items, the whole (plain). -/
namespace Go.Proofs.YtcffdpmmadipeaaDoor
open Go.HL
set_option maxRecDepth 10000
set_option linter.unusedSimpArgs false
set_option linter.unusedVariables false

def baseS : Cs → Nat
  | .stats t => 1 + t.2.cnt
  | .orB t => 1 + t.2.cnt
  | .waits t => t.2.cnt
  | _ => 0
def okS (L : List Tok) (c : Cs) (s : PS) : Prop := match c with
  | .stats t => tameT t = true ∧ t.2.len + (L.length - s.pos) ≤ 10000
  | .orB t => tameT t = true ∧ t.2.len + (L.length - s.pos) ≤ 10000
  | .waits t => tameT t = true ∧ t.2.len = 0
  | _ => True
def goS : Cs → Bool
  | .stat => true
  | .block => true
  | .waits _ => true
  | _ => false
/-- A statement comes to an end. -/
def TotS (L : List Tok) (m : Nat) (c : Cs) : Prop := ∀ s, L.length - s.pos ≤ m → Gd L s → okS L c s → ∃ r, Evs L c s r ∧ RQ L (baseS c) s r ∧ (goS c = true → okM r.2 = true → s.pos < r.2.pos)
section
variable {L : List Tok} {s : PS} {t u : TT}
theorem evs_stop (h : okM s = false) : Evs L (.stats t) s (t, s) := evs_step ⟨0, fun n _ => by simp [stepS, h]⟩
theorem add_cnt : (addT t u).2.cnt = t.2.cnt + (1 + u.2.cnt) := by simp only [addT, Fo.snoc_cnt]
theorem add_len : (addT t u).2.len = t.2.len + 1 := by simp only [addT, Fo.len_snoc]
theorem tree1_cnt {n : Nd} : (tree1 n u).2.cnt = 1 + u.2.cnt := by simp [tree1, Fo.cnt]
theorem tree1_tame {k : Int} {ws : List Str} {us : List Int} {p : Int} (h1 : ws.length ≤ 2) (h2 : us.length ≤ 4) (h3 : ∀ w ∈ ws, w.length ≤ 4000) (h : tameT u = true) : tameT (tree1 ⟨k, ws, us, [], p⟩ u) = true := by
  unfold tameT tree1 at *
  rw [Bool.and_eq_true] at *
  exact ⟨leaf_tame h1 h2 h3, by simp only [Fo.tame, h.1, h.2, Bool.and_self]⟩
theorem one_tame {k : Int} {ws : List Str} {us : List Int} {p : Int} (h1 : ws.length ≤ 2) (h2 : us.length ≤ 4) (h3 : ∀ w ∈ ws, w.length ≤ 4000) : tameT (⟨k, ws, us, [], p⟩, .nil) = true := by
  unfold tameT; rw [Bool.and_eq_true]; exact ⟨leaf_tame h1 h2 h3, rfl⟩
theorem kindT_tame {k : Int} (h : tameT t = true) : tameT (kindT k t) = true := h
set_option maxHeartbeats 2000000 in
theorem evs_total (hW : TW L) (hS : ∀ t ∈ L, t.s.length ≤ 4000) : ∀ (m : Nat) (c : Cs), TotS L m c := by
  have hE : ∀ s, Gd L s → ∃ r, Ev L .expr s r ∧ RQ L 0 s r := fun s g => ev_total hW hS _ .expr s (Nat.le_refl _) g rfl
  have hLen := hW.len
  intro m
  induction m with
  | zero => intro c s hm g _; have := g.1; omega
  | succ m IH =>
    have hblock : TotS L (m + 1) .block := by
      intro s hm g _
      have n1 := nx_must (w := [123]) hW g.1
      have g1 := n1.gd g
      have d1 : deepOk (mustM L [123] s) = true := by unfold deepOk; have := g1.2.1; have := g1.2.2; simp; omega
      rcases in_cases g1 with ⟨q1, q2, q3, q4⟩ | ⟨q1, q2, q3⟩
      · have hgo := must_go q4
        have dp : (inM L (mustM L [123] s)).pos = (mustM L [123] s).pos := by rw [q2]
        have di : (inM L (mustM L [123] s)).deep = (mustM L [123] s).deep + 1 := by rw [q2]
        obtain ⟨r, ⟨n0, e1⟩, hr, _⟩ := IH (.stats (beginM L 16 s, .nil)) (inM L (mustM L [123] s)) (by rw [dp]; omega) q3 ⟨one_tame (by simp) (by simp) (by simp), by simp only [Fo.len]; omega⟩
        have hd := hr.nx.deep
        have d2 : deepOk r.2 = true := by unfold deepOk; rw [hd, di]; have := g1.2.1; have := g1.2.2; simp; omega
        have hp := hr.nx.pos
        have g1d := n1.deep
        refine ⟨(r.1, outM r.2), evs_step ⟨n0, fun n hn => ?_⟩, ⟨⟨?_, hr.nx.lt, ?_, fun _ => n1.ok q4⟩, hr.tame, fun x => ?_⟩, fun _ x => ?_⟩
        · simp only [stepS]
          rw [if_pos d1, e1 n hn]
          simp only [Option.bind_some]
          rw [if_pos d2]
        · show s.pos ≤ r.2.pos; omega
        · show r.2.deep - 1 = s.deep; omega
        · have := hr.cnt x
          have hz : (outM r.2).pos = r.2.pos := rfl
          simp only [baseS, Fo.cnt] at this ⊢
          omega
        · show s.pos < r.2.pos; omega
      · have hd := n1.deep
        have d2 : deepOk (inM L (mustM L [123] s)) = true := by unfold deepOk; rw [q2]; have := g1.2.1; have := g1.2.2; simp; omega
        obtain ⟨n0, e1⟩ := evs_stop (L := L) (t := (beginM L 16 s, .nil)) q1
        have no : ∀ {p : Prop}, okM (outM (inM L (mustM L [123] s))) = true → p := fun x => by
          have : okM (outM (inM L (mustM L [123] s))) = okM (inM L (mustM L [123] s)) := rfl
          rw [this, q1] at x; cases x
        refine ⟨((beginM L 16 s, .nil), outM (inM L (mustM L [123] s))), evs_step ⟨n0, fun n hn => ?_⟩, ⟨⟨?_, ?_, ?_, no⟩, one_tame (by simp) (by simp) (by simp), no⟩, fun _ => no⟩
        · simp only [stepS]
          rw [if_pos d1, e1 n hn]
          simp only [Option.bind_some]
          rw [if_pos d2]
        · show s.pos ≤ (inM L (mustM L [123] s)).pos; rw [q3]; exact n1.pos
        · show (inM L (mustM L [123] s)).pos < L.length; rw [q3]; exact n1.lt
        · show (inM L (mustM L [123] s)).deep - 1 = s.deep; omega
    have horB : ∀ t, TotS L (m + 1) (.orB t) := by
      intro t s hm g ho
      obtain ⟨ht, hl⟩ := ho
      cases q : seesM L [111, 114] s
      · exact ⟨(t, s), evs_step ⟨0, fun n _ => by simp [stepS, q]⟩, ⟨Nx.refl g.1, ht, fun _ => Nat.le_refl _⟩, fun x => by cases x⟩
      · have hlt := sees_lt hW g.1 q
        have n1 := nx_up hlt
        obtain ⟨r, ⟨k1, e1⟩, hr, _⟩ := IH .block (upM s) (go_left hm g.1) (n1.gd g) trivial
        have hu : (upM s).pos = s.pos + 1 := rfl
        have hp := hr.nx.pos
        have hll := hr.nx.lt
        obtain ⟨r2, ⟨k2, e2⟩, hr2, _⟩ := IH (.orB (addT t r.1)) r.2 (by omega) (hr.nx.gd (n1.gd g)) ⟨addT_tame ht hr.tame, by rw [add_len]; omega⟩
        have fw : few t = true := few_of (by omega)
        refine ⟨r2, evs_step ⟨max k1 k2, fun n hn => ?_⟩, ⟨(n1.trans hr.nx).trans hr2.nx, hr2.tame, fun x => ?_⟩, fun x => by cases x⟩
        · simp only [stepS]
          rw [if_pos q, if_pos fw, e1 n (by omega)]
          simp only [Option.bind_some]
          exact e2 n (by omega)
        · have a1 := hr2.cnt x
          have a2 := hr.cnt (hr2.nx.ok x)
          simp only [baseS, add_cnt] at a1 a2 ⊢
          omega
    have hwaits : ∀ t, TotS L (m + 1) (.waits t) := by
      intro t s hm g ho
      obtain ⟨ht, hl⟩ := ho
      have htk : tameN t.1 = true ∧ t.2.tame = true := by unfold tameT at ht; rwa [Bool.and_eq_true] at ht
      have hnk : t.1.nums.length ≤ 4 ∧ t.1.kids = [] := by
        have := htk.1; unfold tameN at this
        simp only [Bool.and_eq_true, decide_eq_true_eq] at this
        exact ⟨this.2.1, this.2.2.2⟩
      by_cases q1 : seesM L [114, 101, 99, 118] s = true
      · have hlt := sees_lt hW g.1 q1
        have n1 := nx_up hlt
        have n2 := nx_name hW n1.lt
        have n3 := nx_name hW n2.lt
        have n4 := nx_must (w := [59]) hW n3.lt
        have hu : (upM s).pos = s.pos + 1 := rfl
        have p2 := n2.pos
        have p3 := n3.pos
        have p4 := n4.pos
        refine ⟨(({ t.1 with kind := 8, words := [(pnameM L (upM s)).1, (pnameM L (pnameM L (upM s)).2).1] }, t.2), mustM L [59] (pnameM L (pnameM L (upM s)).2).2), evs_step ⟨0, fun n _ => by simp only [stepS]; rw [if_pos q1]⟩, ⟨((n1.trans n2).trans n3).trans n4, ?_, fun x => ?_⟩, fun _ _ => by (try simp only); omega⟩
        · unfold tameT
          rw [Bool.and_eq_true]
          refine ⟨?_, htk.2⟩
          unfold tameN
          simp only [Bool.and_eq_true, decide_eq_true_eq, List.all_eq_true]
          refine ⟨by simp, hnk.1, ?_, hnk.2⟩
          intro w hw
          simp only [List.mem_cons, List.not_mem_nil, or_false] at hw
          rcases hw with rfl | rfl
          · exact name_len hS n1.lt
          · exact name_len hS n2.lt
        · simp only [baseS]; omega
      by_cases q2 : seesM L [119, 104, 101, 110] s = true
      · have hlt := sees_lt hW g.1 q2
        have n1 := nx_up hlt
        obtain ⟨r, ⟨k1, e1⟩, hr⟩ := hE (upM s) (n1.gd g)
        have n4 := nx_must (w := [59]) hW hr.nx.lt
        have hu : (upM s).pos = s.pos + 1 := rfl
        have p2 := hr.nx.pos
        have p4 := n4.pos
        refine ⟨(addT (kindT 9 t) r.1, mustM L [59] r.2), evs_step ⟨k1, fun n hn => by simp only [stepS]; rw [if_neg q1, if_pos q2, e1 n hn]; simp only [Option.bind_some]⟩, ⟨(n1.trans hr.nx).trans n4, addT_tame (kindT_tame ht) hr.tame, fun x => ?_⟩, fun _ _ => by (try simp only); omega⟩
        have a1 := hr.cnt (n4.ok x)
        have hk : (kindT 9 t).2.cnt = t.2.cnt := rfl
        simp only [baseS, add_cnt, hk]
        omega
      · have n1 := nx_must (w := [99, 104, 111, 111, 115, 101]) hW g.1
        have g1 := n1.gd g
        have p1 := n1.pos
        obtain ⟨r, ⟨k1, e1⟩, hr, hgo⟩ := hblock (mustM L [99, 104, 111, 111, 115, 101] s) (by omega) g1 trivial
        have p2 := hr.nx.pos
        have hlt := hr.nx.lt
        have hk : (kindT 10 t).2.cnt = t.2.cnt := rfl
        have hkl : (kindT 10 t).2.len = t.2.len := rfl
        obtain ⟨r2, ⟨k2, e2⟩, hr2, _⟩ := horB (addT (kindT 10 t) r.1) r.2 (by omega) (hr.nx.gd g1) ⟨addT_tame (kindT_tame ht) hr.tame, by rw [add_len, hkl]; omega⟩
        have p3 := hr2.nx.pos
        refine ⟨r2, evs_step ⟨max k1 k2, fun n hn => ?_⟩, ⟨(n1.trans hr.nx).trans hr2.nx, hr2.tame, fun x => ?_⟩, fun _ x => ?_⟩
        · simp only [stepS]
          rw [if_neg q1, if_neg q2, e1 n (by omega)]
          simp only [Option.bind_some]
          exact e2 n (by omega)
        · have a1 := hr2.cnt x
          have a2 := hr.cnt (hr2.nx.ok x)
          have a3 := must_go (hr.nx.ok (hr2.nx.ok x))
          simp only [baseS, add_cnt, hk] at a1 a2 ⊢
          omega
        · have a3 := must_go (hr.nx.ok (hr2.nx.ok x))
          omega
    have hstat : TotS L (m + 1) .stat := by
      intro s hm g _
      have n1 := nx_flag (w := [105, 100, 108, 101]) hW g.1
      have g1 := n1.gd g
      have p1 := n1.pos
      obtain ⟨s1, hs1⟩ : ∃ s1, s1 = (flagM L [105, 100, 108, 101] s).2 := ⟨_, rfl⟩
      rw [← hs1] at n1 g1 p1
      by_cases q1 : (seesM L [105, 100, 108, 101] s || seesM L [114, 101, 99, 118] s1 || seesM L [119, 104, 101, 110] s1 || seesM L [99, 104, 111, 111, 115, 101] s1) = true
      · obtain ⟨r, ⟨k1, e1⟩, hr, hgo⟩ := hwaits ({ beginM L 6 s with nums := [(flagM L [105, 100, 108, 101] s).1] }, .nil) s1 (by omega) g1 ⟨one_tame (by simp [beginM]) (by simp [beginM]) (by simp [beginM]), rfl⟩
        have p2 := hr.nx.pos
        refine ⟨r, evs_step ⟨k1, fun n hn => ?_⟩, ⟨n1.trans hr.nx, hr.tame, fun x => ?_⟩, fun _ x => ?_⟩
        · simp only [stepS, ← hs1]
          rw [if_pos q1]
          exact e1 n hn
        · have a1 := hr.cnt x
          simp only [baseS, Fo.cnt] at a1 ⊢
          omega
        · have := hgo rfl x; omega
      have up : ∀ {w : Str}, seesM L w s1 = true → Nx L s (upM s1) ∧ (upM s1).pos = s1.pos + 1 := fun h => ⟨n1.trans (nx_up (sees_lt hW g1.1 h)), rfl⟩
      by_cases q2 : seesM L [115, 101, 110, 100] s1 = true
      · obtain ⟨u1, u2⟩ := up q2
        have n2 := nx_name hW u1.lt
        obtain ⟨r, ⟨k1, e1⟩, hr⟩ := hE (pnameM L (upM s1)).2 ((u1.trans n2).gd g)
        have n4 := nx_must (w := [59]) hW hr.nx.lt
        have p2 := n2.pos
        have p3 := hr.nx.pos
        have p4 := n4.pos
        refine ⟨(tree1 { beginM L 6 s with kind := 7, words := [(pnameM L (upM s1)).1] } r.1, mustM L [59] r.2), evs_step ⟨k1, fun n hn => by simp only [stepS, ← hs1]; rw [if_neg q1, if_pos q2, e1 n hn]; simp only [Option.bind_some]⟩, ⟨((u1.trans n2).trans hr.nx).trans n4, ?_, fun x => ?_⟩, fun _ _ => by (try simp only); omega⟩
        · exact tree1_tame (by simp) (by simp [beginM]) (by have := name_len hS u1.lt; simpa using this) hr.tame
        · have a1 := hr.cnt (n4.ok x)
          simp only [baseS, tree1_cnt]
          omega
      by_cases q3 : seesM L [105, 102] s1 = true
      · obtain ⟨u1, u2⟩ := up q3
        obtain ⟨r, ⟨k1, e1⟩, hr⟩ := hE (upM s1) (u1.gd g)
        have p2 := hr.nx.pos
        obtain ⟨b, ⟨k2, e2⟩, hb, _⟩ := hblock r.2 (by omega) ((u1.trans hr.nx).gd g) trivial
        have p3 := hb.nx.pos
        have nb := (u1.trans hr.nx).trans hb.nx
        have tt1 : tameT (addT (tree1 { beginM L 6 s with kind := 11 } r.1) b.1) = true := addT_tame (tree1_tame (by simp [beginM]) (by simp [beginM]) (by simp [beginM]) hr.tame) hb.tame
        cases q : seesM L [101, 108, 115, 101] b.2
        · refine ⟨(addT (tree1 { beginM L 6 s with kind := 11 } r.1) b.1, b.2), evs_step ⟨max k1 k2, fun n hn => ?_⟩, ⟨nb, tt1, fun x => ?_⟩, fun _ _ => by (try simp only); omega⟩
          · simp only [stepS, ← hs1]
            rw [if_neg q1, if_neg q2, if_pos q3, e1 n (by omega)]
            simp only [Option.bind_some]
            rw [e2 n (by omega)]
            simp [q]
          · have a1 := hb.cnt x
            have a2 := hr.cnt (hb.nx.ok x)
            simp only [baseS, add_cnt, tree1_cnt] at a1 a2 ⊢
            omega
        · have hlt := sees_lt hW nb.lt q
          have n5 := nx_up hlt
          have hu : (upM b.2).pos = b.2.pos + 1 := rfl
          obtain ⟨c, ⟨k3, e3⟩, hc, _⟩ := hblock (upM b.2) (by omega) ((nb.trans n5).gd g) trivial
          have p5 := hc.nx.pos
          refine ⟨(addT (addT (tree1 { beginM L 6 s with kind := 11 } r.1) b.1) c.1, c.2), evs_step ⟨max k1 (max k2 k3), fun n hn => ?_⟩, ⟨(nb.trans n5).trans hc.nx, addT_tame tt1 hc.tame, fun x => ?_⟩, fun _ _ => by (try simp only); omega⟩
          · simp only [stepS, ← hs1]
            rw [if_neg q1, if_neg q2, if_pos q3, e1 n (by omega)]
            simp only [Option.bind_some]
            rw [e2 n (by omega)]
            simp only [Option.bind_some]
            rw [if_pos q, e3 n (by omega)]
            simp only [Option.bind_some]
          · have a0 := hc.cnt x
            have a1 := hb.cnt (n5.ok (hc.nx.ok x))
            have a2 := hr.cnt (hb.nx.ok (n5.ok (hc.nx.ok x)))
            simp only [baseS, add_cnt, tree1_cnt] at a0 a1 a2 ⊢
            omega
      by_cases q4 : seesM L [119, 104, 105, 108, 101] s1 = true
      · obtain ⟨u1, u2⟩ := up q4
        obtain ⟨r, ⟨k1, e1⟩, hr⟩ := hE (upM s1) (u1.gd g)
        have p2 := hr.nx.pos
        obtain ⟨b, ⟨k2, e2⟩, hb, _⟩ := hblock r.2 (by omega) ((u1.trans hr.nx).gd g) trivial
        have p3 := hb.nx.pos
        have nb := (u1.trans hr.nx).trans hb.nx
        have tt1 : tameT (addT (tree1 { beginM L 6 s with kind := 12 } r.1) b.1) = true := addT_tame (tree1_tame (by simp [beginM]) (by simp [beginM]) (by simp [beginM]) hr.tame) hb.tame
        refine ⟨(addT (tree1 { beginM L 6 s with kind := 12 } r.1) b.1, b.2), evs_step ⟨max k1 k2, fun n hn => ?_⟩, ⟨nb, tt1, fun x => ?_⟩, fun _ _ => by (try simp only); omega⟩
        · simp only [stepS, ← hs1]
          rw [if_neg q1, if_neg q2, if_neg q3, if_pos q4, e1 n (by omega)]
          simp only [Option.bind_some]
          rw [e2 n (by omega)]
          simp only [Option.bind_some]
        · have a1 := hb.cnt x
          have a2 := hr.cnt (hb.nx.ok x)
          simp only [baseS, add_cnt, tree1_cnt] at a1 a2 ⊢
          omega
      by_cases q5 : seesM L [97, 116, 111, 109, 105, 99] s1 = true
      · obtain ⟨u1, u2⟩ := up q5
        obtain ⟨b, ⟨k2, e2⟩, hb, _⟩ := hblock (upM s1) (by omega) (u1.gd g) trivial
        have p3 := hb.nx.pos
        refine ⟨(tree1 { beginM L 6 s with kind := 13 } b.1, b.2), evs_step ⟨k2, fun n hn => ?_⟩, ⟨u1.trans hb.nx, tree1_tame (by simp [beginM]) (by simp [beginM]) (by simp [beginM]) hb.tame, fun x => ?_⟩, fun _ _ => by (try simp only); omega⟩
        · simp only [stepS, ← hs1]
          rw [if_neg q1, if_neg q2, if_neg q3, if_neg q4, if_pos q5, e2 n hn]
          simp only [Option.bind_some]
        · have a1 := hb.cnt x
          simp only [baseS, tree1_cnt] at a1 ⊢
          omega
      by_cases q6 : seesM L [115, 107, 105, 112] s1 = true
      · obtain ⟨u1, u2⟩ := up q6
        have n4 := nx_must (w := [59]) hW u1.lt
        have p4 := n4.pos
        refine ⟨(({ beginM L 6 s with kind := 14 }, .nil), mustM L [59] (upM s1)), evs_step ⟨0, fun n hn => by simp only [stepS, ← hs1]; rw [if_neg q1, if_neg q2, if_neg q3, if_neg q4, if_neg q5, if_pos q6]⟩, ⟨u1.trans n4, one_tame (by simp [beginM]) (by simp [beginM]) (by simp [beginM]), fun x => ?_⟩, fun _ _ => by (try simp only); omega⟩
        simp only [baseS, Fo.cnt]; omega
      by_cases q7 : seesM L [115, 116, 111, 112] s1 = true
      · obtain ⟨u1, u2⟩ := up q7
        have n4 := nx_must (w := [59]) hW u1.lt
        have p4 := n4.pos
        refine ⟨(({ beginM L 6 s with kind := 15 }, .nil), mustM L [59] (upM s1)), evs_step ⟨0, fun n hn => by simp only [stepS, ← hs1]; rw [if_neg q1, if_neg q2, if_neg q3, if_neg q4, if_neg q5, if_neg q6, if_pos q7]⟩, ⟨u1.trans n4, one_tame (by simp [beginM]) (by simp [beginM]) (by simp [beginM]), fun x => ?_⟩, fun _ _ => by (try simp only); omega⟩
        simp only [baseS, Fo.cnt]; omega
      · have n2 := nx_name hW g1.1
        have n3 := nx_must (w := [61]) hW n2.lt
        obtain ⟨r, ⟨k1, e1⟩, hr⟩ := hE (mustM L [61] (pnameM L s1).2) (((n1.trans n2).trans n3).gd g)
        have n4 := nx_must (w := [59]) hW hr.nx.lt
        have p2 := n2.pos
        have p3 := n3.pos
        have p5 := hr.nx.pos
        have p4 := n4.pos
        refine ⟨(tree1 { beginM L 6 s with words := [(pnameM L s1).1] } r.1, mustM L [59] r.2), evs_step ⟨k1, fun n hn => by simp only [stepS, ← hs1]; rw [if_neg q1, if_neg q2, if_neg q3, if_neg q4, if_neg q5, if_neg q6, if_neg q7, e1 n hn]; simp only [Option.bind_some]⟩, ⟨(((n1.trans n2).trans n3).trans hr.nx).trans n4, ?_, fun x => ?_⟩, fun _ x => ?_⟩
        · exact tree1_tame (by simp) (by simp [beginM]) (by have := name_len hS g1.1; simpa using this) hr.tame
        · have a0 := hr.nx.ok (n4.ok x)
          have a1 := hr.cnt (n4.ok x)
          have a2 := name_go (n3.ok a0)
          simp only [baseS, tree1_cnt]
          omega
        · have a0 := hr.nx.ok (n4.ok x)
          have a2 := name_go (n3.ok a0)
          simp only; omega
    have hstats : ∀ t, TotS L (m + 1) (.stats t) := by
      intro t s hm g ho
      obtain ⟨ht, hl⟩ := ho
      cases q : okM s
      · exact ⟨(t, s), evs_stop q, ⟨Nx.refl g.1, ht, fun _ => Nat.le_refl _⟩, fun x => by cases x⟩
      cases q1 : seesM L [125] s
      · obtain ⟨r, ⟨k1, e1⟩, hr, hgo⟩ := hstat s hm g trivial
        have fw : few t = true := few_of (by omega)
        have p1 := hr.nx.pos
        have hlt := hr.nx.lt
        cases qr : okM r.2
        · obtain ⟨k2, e2⟩ := evs_stop (L := L) (t := addT t r.1) qr
          refine ⟨(addT t r.1, r.2), evs_step ⟨max k1 k2, fun n hn => ?_⟩, ⟨hr.nx, addT_tame ht hr.tame, fun x => by simp only at x; rw [qr] at x; cases x⟩, fun x => by cases x⟩
          simp only [stepS, q, q1, if_true, Bool.false_eq_true, if_false]
          rw [if_pos fw, e1 n (by omega)]
          simp only [Option.bind_some]
          exact e2 n (by omega)
        · have h3 := hgo rfl qr
          obtain ⟨r2, ⟨k2, e2⟩, hr2, _⟩ := IH (.stats (addT t r.1)) r.2 (by omega) (hr.nx.gd g) ⟨addT_tame ht hr.tame, by rw [add_len]; omega⟩
          refine ⟨r2, evs_step ⟨max k1 k2, fun n hn => ?_⟩, ⟨hr.nx.trans hr2.nx, hr2.tame, fun x => ?_⟩, fun x => by cases x⟩
          · simp only [stepS, q, q1, if_true, Bool.false_eq_true, if_false]
            rw [if_pos fw, e1 n (by omega)]
            simp only [Option.bind_some]
            exact e2 n (by omega)
          · have a1 := hr2.cnt x
            have a2 := hr.cnt (hr2.nx.ok x)
            simp only [baseS, add_cnt] at a1 a2 ⊢
            omega
      · have hlt := sees_lt hW g.1 q1
        refine ⟨(t, upM s), evs_step ⟨0, fun n _ => by simp [stepS, q, q1]⟩, ⟨nx_up hlt, ht, fun _ => ?_⟩, fun x => by cases x⟩
        have : (upM s).pos = s.pos + 1 := rfl
        simp only [baseS]; omega
    intro c
    cases c with
    | stat => exact hstat
    | block => exact hblock
    | stats t => exact hstats t
    | waits t => exact hwaits t
    | orB t => exact horB t
theorem var_total (hW : TW L) (hS : ∀ t ∈ L, t.s.length ≤ 4000) (g : Gd L s) (h : seesM L [118, 97, 114] s = true) : RQ L 0 s (varM L s) ∧ s.pos < (varM L s).2.pos := by
  have hlt := sees_lt hW g.1 h
  have n1 := nx_must (w := [118, 97, 114]) hW g.1
  have hgo : s.pos < (mustM L [118, 97, 114] s).pos := by unfold mustM; rw [if_pos h]; simp [upM]
  have n2 := nx_name hW n1.lt
  have n3 := nx_must (w := [111, 102]) hW n2.lt
  have n4 := nx_num hW n3.lt
  have key : Nx L s (varM L s).2 ∧ (mustM L [118, 97, 114] s).pos ≤ (varM L s).2.pos := by
    unfold varM
    simp only
    split
    · rename_i h1
      have n5 := nx_up (sees_lt hW n4.lt h1)
      split
      · rename_i h2
        have n6 := nx_up (sees_lt hW n5.lt h2)
        have n7 := nx_num hW n6.lt
        have n8 := nx_must (w := [59]) hW n7.lt
        have := ((((((n2.trans n3).trans n4).trans n5).trans n6).trans n7).trans n8)
        exact ⟨n1.trans this, this.pos⟩
      · have n7 := nx_num hW n5.lt
        have n8 := nx_must (w := [59]) hW n7.lt
        have := (((((n2.trans n3).trans n4).trans n5).trans n7).trans n8)
        exact ⟨n1.trans this, this.pos⟩
    · have n8 := nx_must (w := [59]) hW n4.lt
      have := (((n2.trans n3).trans n4).trans n8)
      exact ⟨n1.trans this, this.pos⟩
  refine ⟨⟨key.1, ?_, fun _ => ?_⟩, by omega⟩
  · exact one_tame (by simp) (by simp) (by have := name_len hS n1.lt; simpa using this)
  · have h0 : (varM L s).1.2.cnt = 0 := rfl
    omega
theorem vars_total (hW : TW L) (hS : ∀ t ∈ L, t.s.length ≤ 4000) : ∀ (m : Nat) (s : PS) (t : TT), L.length - s.pos ≤ m → Gd L s → tameT t = true → t.2.len + (L.length - s.pos) ≤ 10000 →
    ∃ r, (∀ j, m < j → varsL L j t s = some r) ∧ RQ L (1 + t.2.cnt) s r ∧ r.1.2.len + (L.length - r.2.pos) ≤ 10000
  | m, s, t, hm, g, ht, hl => by
    cases q : seesM L [118, 97, 114] s
    · refine ⟨(t, s), fun j hj => ?_, ⟨Nx.refl g.1, ht, fun _ => Nat.le_refl _⟩, hl⟩
      obtain ⟨i, rfl⟩ : ∃ i, j = i + 1 := ⟨j - 1, by omega⟩
      unfold varsL
      rw [if_neg (by rw [q]; simp)]
    · obtain ⟨hv, hgo⟩ := var_total hW hS g q
      have hg := g.1
      obtain ⟨m, rfl⟩ : ∃ j, m = j + 1 := ⟨m - 1, by omega⟩
      have hlt := hv.nx.lt
      obtain ⟨r, h1, h2, h3⟩ := vars_total hW hS m (varM L s).2 (addT t (varM L s).1) (by omega) (hv.nx.gd g) (addT_tame ht hv.tame) (by rw [add_len]; omega)
      refine ⟨r, fun j hj => ?_, ⟨hv.nx.trans h2.nx, h2.tame, fun x => ?_⟩, h3⟩
      · obtain ⟨i, rfl⟩ : ∃ i, j = i + 1 := ⟨j - 1, by omega⟩
        unfold varsL
        rw [if_pos q, if_pos (few_of (by omega))]
        exact h1 i (by omega)
      · have a1 := h2.cnt x
        have a2 := hv.cnt (h2.nx.ok x)
        simp only [add_cnt] at a1
        omega
theorem proc_total (hW : TW L) (hS : ∀ t ∈ L, t.s.length ≤ 4000) (g : Gd L s) (h : seesM L [112, 114, 111, 99] s = true) : ∃ r n0, (∀ n, n0 ≤ n → procM L n s = some r) ∧ RQ L 0 s r ∧ s.pos < r.2.pos := by
  have hLen := hW.len
  have n1 := nx_must (w := [112, 114, 111, 99]) hW g.1
  have hgo : s.pos < (mustM L [112, 114, 111, 99] s).pos := by unfold mustM; rw [if_pos h]; simp [upM]
  have n2 := nx_name hW n1.lt
  have n3 : Nx L (pnameM L (mustM L [112, 114, 111, 99] s)).2 (copM L (pnameM L (mustM L [112, 114, 111, 99] s)).2).2 := by
    unfold copM
    split
    · rename_i h1
      have n5 := nx_up (sees_lt hW n2.lt h1)
      exact n5.trans (nx_num hW n5.lt)
    · exact Nx.refl n2.lt
  have n4 := nx_must (w := [123]) hW n3.lt
  have n5 := ((n1.trans n2).trans n3).trans n4
  have p2 := n2.pos
  have p3 := n3.pos
  have p4 := n4.pos
  obtain ⟨t0, ht0⟩ : ∃ t0 : TT, t0 = ({ beginM L 3 s with words := [(pnameM L (mustM L [112, 114, 111, 99] s)).1], nums := [(copM L (pnameM L (mustM L [112, 114, 111, 99] s)).2).1] }, .nil) := ⟨_, rfl⟩
  have tt0 : tameT t0 = true := by rw [ht0]; exact one_tame (by simp) (by simp) (by have := name_len hS n1.lt; simpa using this)
  have l0 : t0.2.len = 0 := by rw [ht0]; rfl
  have c0 : t0.2.cnt = 0 := by rw [ht0]; rfl
  obtain ⟨r, h1, h2, h3⟩ := vars_total hW hS L.length (mustM L [123] (copM L (pnameM L (mustM L [112, 114, 111, 99] s)).2).2) t0 (by omega) (n5.gd g) tt0 (by omega)
  have gr := (n5.trans h2.nx).gd g
  have d1 : deepOk r.2 = true := by unfold deepOk; have := gr.2.1; have := gr.2.2; simp; omega
  have pr := h2.nx.pos
  have dr := (n5.trans h2.nx).deep
  rcases in_cases gr with ⟨q1, q2, q3, q4⟩ | ⟨q1, q2, q3⟩
  · have dp : (inM L r.2).pos = r.2.pos := by rw [q2]
    have di : (inM L r.2).deep = r.2.deep + 1 := by rw [q2]
    obtain ⟨r2, ⟨k2, e2⟩, hr2, _⟩ := evs_total hW hS L.length (.stats r.1) (inM L r.2) (by omega) q3 ⟨h2.tame, by rw [dp]; exact h3⟩
    have d3 := hr2.nx.deep
    have d2 : deepOk r2.2 = true := by unfold deepOk; rw [d3, di]; have := gr.2.1; have := gr.2.2; simp; omega
    have pr2 := hr2.nx.pos
    refine ⟨(r2.1, outM r2.2), max k2 (L.length + 1), fun n hn => ?_, ⟨⟨?_, hr2.nx.lt, ?_, fun _ => (n5.trans h2.nx).ok q4⟩, hr2.tame, fun x => ?_⟩, ?_⟩
    · unfold procM
      rw [← ht0, h1 n (by omega)]
      simp only [Option.bind_some]
      rw [if_pos d1, e2 n (by omega)]
      simp only [Option.bind_some]
      rw [if_pos d2]
    · show s.pos ≤ r2.2.pos; omega
    · show r2.2.deep - 1 = s.deep; omega
    · have a1 := hr2.cnt x
      have a2 := h2.cnt (by
        have : okM (inM L r.2) = true := hr2.nx.ok x
        exact q4)
      have hz : (outM r2.2).pos = r2.2.pos := rfl
      simp only [baseS] at a1 ⊢
      omega
    · show s.pos < r2.2.pos; omega
  · obtain ⟨k2, e2⟩ := evs_stop (L := L) (t := r.1) q1
    have d2 : deepOk (inM L r.2) = true := by unfold deepOk; rw [q2]; have := gr.2.1; have := gr.2.2; simp; omega
    have no : ∀ {p : Prop}, okM (outM (inM L r.2)) = true → p := fun x => by
      have : okM (outM (inM L r.2)) = okM (inM L r.2) := rfl
      rw [this, q1] at x; cases x
    refine ⟨(r.1, outM (inM L r.2)), max k2 (L.length + 1), fun n hn => ?_, ⟨⟨?_, ?_, ?_, no⟩, h2.tame, no⟩, ?_⟩
    · unfold procM
      rw [← ht0, h1 n (by omega)]
      simp only [Option.bind_some]
      rw [if_pos d1, e2 n (by omega)]
      simp only [Option.bind_some]
      rw [if_pos d2]
    · show s.pos ≤ (inM L r.2).pos; rw [q3]; omega
    · show (inM L r.2).pos < L.length; rw [q3]; exact gr.1
    · show (inM L r.2).deep - 1 = s.deep; omega
    · show s.pos < (inM L r.2).pos; rw [q3]; omega
set_option maxHeartbeats 1000000 in
theorem item_total (hW : TW L) (hS : ∀ t ∈ L, t.s.length ≤ 4000) (g : Gd L s) : ∃ r n0, (∀ n, n0 ≤ n → itemM L n s = some r) ∧ RQ L 0 s r ∧ (okM r.2 = true → s.pos < r.2.pos) := by
  by_cases q1 : seesM L [118, 97, 114] s = true
  · obtain ⟨h1, h2⟩ := var_total hW hS g q1
    exact ⟨varM L s, 0, fun n _ => by unfold itemM; rw [if_pos q1], h1, fun _ => h2⟩
  by_cases q2 : seesM L [112, 114, 111, 99] s = true
  · obtain ⟨r, n0, h1, h2, h3⟩ := proc_total hW hS g q2
    exact ⟨r, n0, fun n hn => by unfold itemM; rw [if_neg q1, if_pos q2, h1 n hn], h2, fun _ => h3⟩
  by_cases q3 : seesM L [99, 104, 97, 110] s = true
  · have n1 := nx_up (sees_lt hW g.1 q3)
    have hu : (upM s).pos = s.pos + 1 := rfl
    have n2 := nx_name hW n1.lt
    have n3 := nx_must (w := [91]) hW n2.lt
    have n4 := nx_num hW n3.lt
    have n5 := nx_must (w := [93]) hW n4.lt
    have n6 := nx_must (w := [111, 102]) hW n5.lt
    have n7 := nx_num hW n6.lt
    have n8 := nx_flag (w := [108, 111, 115, 115, 121]) hW n7.lt
    have n9 := nx_flag (w := [99, 111, 112, 121, 105, 110, 103]) hW n8.lt
    have n10 := nx_must (w := [59]) hW n9.lt
    have na := ((((((((n2.trans n3).trans n4).trans n5).trans n6).trans n7).trans n8).trans n9).trans n10)
    have pa := na.pos
    refine ⟨_, 0, fun n _ => by unfold itemM; rw [if_neg q1, if_neg q2, if_pos q3], ⟨n1.trans na, ?_, fun _ => ?_⟩, fun _ => ?_⟩
    · exact one_tame (by simp) (by simp) (by have := name_len hS n1.lt; simpa using this)
    · simp only [Fo.cnt]; omega
    · simp only; omega
  by_cases q4 : seesM L [115, 97, 102, 101] s = true
  · have n1 := nx_up (sees_lt hW g.1 q4)
    have hu : (upM s).pos = s.pos + 1 := rfl
    obtain ⟨r, ⟨k1, e1⟩, hr⟩ := ev_total hW hS _ .expr (upM s) (Nat.le_refl _) (n1.gd g) rfl
    have n2 := nx_must (w := [59]) hW hr.nx.lt
    have p1 := hr.nx.pos
    have p2 := n2.pos
    refine ⟨(tree1 { beginM L 5 s with kind := 4 } r.1, mustM L [59] r.2), k1, fun n hn => by unfold itemM; rw [if_neg q1, if_neg q2, if_neg q3, if_pos q4, e1 n hn]; rfl, ⟨(n1.trans hr.nx).trans n2, ?_, fun x => ?_⟩, fun _ => ?_⟩
    · exact tree1_tame (by simp [beginM]) (by simp [beginM]) (by simp [beginM]) hr.tame
    · have a1 := hr.cnt (n2.ok x)
      simp only [baseE, tree1_cnt] at a1 ⊢
      omega
    · simp only; omega
  · have n1 := nx_must (w := [100, 101, 97, 100, 108, 111, 99, 107]) hW g.1
    have n2 := nx_must (w := [59]) hW n1.lt
    have p2 := n2.pos
    refine ⟨_, 0, fun n _ => by unfold itemM; rw [if_neg q1, if_neg q2, if_neg q3, if_neg q4], ⟨n1.trans n2, ?_, fun x => ?_⟩, fun x => ?_⟩
    · exact one_tame (by simp) (by simp) (by simp)
    · have := must_go (n2.ok x); simp only [Fo.cnt]; omega
    · have := must_go (n2.ok x); simp only; omega
theorem prog_total (hW : TW L) (hS : ∀ t ∈ L, t.s.length ≤ 4000) : ∀ (m : Nat) (s : PS) (t : TT), L.length - s.pos ≤ m → Gd L s → tameT t = true → t.2.len + (L.length - s.pos) ≤ 10000 →
    ∃ r n0, (∀ n, n0 ≤ n → ∀ j, m + 1 < j → progL L n j t s = some r) ∧ RQ L (1 + t.2.cnt) s r
  | m, s, t, hm, g, ht, hl => by
    by_cases q : (okM s && decide (¬ (tkM L s).kind = 3)) = true
    · obtain ⟨r, n0, h1, h2, h3⟩ := item_total hW hS g
      have fw : few t = true := few_of (by omega)
      have hlt := h2.nx.lt
      have hg := g.1
      cases qr : okM r.2
      · refine ⟨(addT t r.1, r.2), n0, fun n hn j hj => ?_, ⟨h2.nx, addT_tame ht h2.tame, fun x => by simp only at x; rw [qr] at x; cases x⟩⟩
        obtain ⟨i, rfl⟩ : ∃ i, j = i + 1 := ⟨j - 1, by omega⟩
        obtain ⟨i, rfl⟩ : ∃ k, i = k + 1 := ⟨i - 1, by omega⟩
        unfold progL
        rw [if_pos q, if_pos fw, h1 n hn]
        simp only [Option.bind_some]
        unfold progL
        rw [if_neg (by rw [qr]; simp)]
      · have h4 := h3 qr
        obtain ⟨m, rfl⟩ : ∃ j, m = j + 1 := ⟨m - 1, by omega⟩
        obtain ⟨r2, n2, h5, h6⟩ := prog_total hW hS m r.2 (addT t r.1) (by omega) (h2.nx.gd g) (addT_tame ht h2.tame) (by rw [add_len]; omega)
        refine ⟨r2, max n0 n2, fun n hn j hj => ?_, ⟨h2.nx.trans h6.nx, h6.tame, fun x => ?_⟩⟩
        · obtain ⟨i, rfl⟩ : ∃ i, j = i + 1 := ⟨j - 1, by omega⟩
          unfold progL
          rw [if_pos q, if_pos fw, h1 n (by omega)]
          simp only [Option.bind_some]
          exact h5 n (by omega) i (by omega)
        · have a1 := h6.cnt x
          have a2 := h2.cnt (h6.nx.ok x)
          simp only [add_cnt] at a1
          omega
    · refine ⟨(t, s), 0, fun n _ j hj => ?_, ⟨Nx.refl g.1, ht, fun _ => Nat.le_refl _⟩⟩
      obtain ⟨i, rfl⟩ : ∃ i, j = i + 1 := ⟨j - 1, by omega⟩
      unfold progL
      rw [if_neg q]
end
/-- The parser comes to an answer: a fault, or a list that a tree lays out. -/
theorem parse_total (s : Str) : ∃ n res, parseM n s = some res ∧ ((res.1 = [] ∧ res.2.err ≠ 0) ∨ ∃ t : TT, tameT t = true ∧ res = (layF t.2 0 [t.1], ⟨0, 0⟩) ∧ (layF t.2 0 [t.1]).length ≤ 800) := by
  obtain ⟨q, hq⟩ := tokens_total s
  by_cases he : q.2.err = 0
  rotate_left
  · refine ⟨s.length + 1, ([], q.2), ?_, .inl ⟨rfl, he⟩⟩
    unfold parseM
    rw [hq _ (Nat.lt_succ_self _)]
    simp only [Option.bind_some]
    rw [if_neg he]
  have hq1 := hq _ (Nat.lt_succ_self _)
  obtain ⟨hW, hpos⟩ := tokens_tw hq1 he
  have hl : s.length ≤ 4000 := by
    rcases Nat.lt_or_ge 4000 s.length with h | h
    · unfold tokensM at hq1
      rw [if_pos h] at hq1
      simp only [Option.some.injEq] at hq1
      subst hq1
      simp at he
    · exact h
  have hS : ∀ t ∈ q.1, t.s.length ≤ 4000 := by
    unfold tokensM at hq1
    rw [if_neg (by omega)] at hq1
    intro t ht
    have := tokM_short _ s 0 [] q hq1 (by simp) t ht
    omega
  have hLen := hW.len
  obtain ⟨r, n0, h1, h2⟩ := prog_total hW hS q.1.length ⟨0, 0, ⟨0, 0⟩⟩ (beginM q.1 0 ⟨0, 0, ⟨0, 0⟩⟩, .nil) (by simp) ⟨hpos, by simp, by simp⟩ (one_tame (by simp) (by simp) (by simp)) (by simp [Fo.len]; omega)
  obtain ⟨N, hN⟩ : ∃ N, N = max (s.length + 1) (max n0 (q.1.length + 2)) := ⟨_, rfl⟩
  have e1 : progM q.1 N ⟨0, 0, ⟨0, 0⟩⟩ = some r := h1 N (by omega) N (by omega)
  have e2 := hq N (by omega)
  by_cases hf : r.2.flt.err = 0
  rotate_left
  · refine ⟨N, ([], r.2.flt), ?_, .inl ⟨rfl, hf⟩⟩
    unfold parseM
    rw [e2]
    simp only [Option.bind_some]
    rw [if_pos he, e1]
    simp only [Option.bind_some]
    rw [if_neg hf]
  have hc := h2.cnt (by unfold okM; simp [hf])
  have hp := h2.nx.lt
  simp only [Fo.cnt] at hc
  have hcc : r.1.2.cnt + 1 ≤ 1000000 := by omega
  by_cases h8 : 800 < (layF r.1.2 0 [r.1.1]).length
  · refine ⟨N, ([], ⟨12, 0⟩), ?_, .inl ⟨rfl, by simp⟩⟩
    unfold parseM
    rw [e2]
    simp only [Option.bind_some]
    rw [if_pos he, e1]
    simp only [Option.bind_some]
    rw [if_pos hf, if_pos hcc, if_pos h8]
  by_cases hd : 0 ≤ deepT r.1.1 r.1.2 1
  · refine ⟨N, ([], ⟨12, deepT r.1.1 r.1.2 1⟩), ?_, .inl ⟨rfl, by simp⟩⟩
    unfold parseM
    rw [e2]
    simp only [Option.bind_some]
    rw [if_pos he, e1]
    simp only [Option.bind_some]
    rw [if_pos hf, if_pos hcc, if_neg h8, if_pos hd]
  · refine ⟨N, (layF r.1.2 0 [r.1.1], ⟨0, 0⟩), ?_, .inr ⟨r.1, h2.tame, rfl, by omega⟩⟩
    unfold parseM
    rw [e2]
    simp only [Option.bind_some]
    rw [if_pos he, e1]
    simp only [Option.bind_some]
    rw [if_pos hf, if_pos hcc, if_neg h8, if_neg hd]
/-- A list that a tree lays out has no list that is too long. -/
theorem lay_sz {t : TT} (ht : tameT t = true) (hl : (layF t.2 0 [t.1]).length ≤ 800) : Sz (layF t.2 0 [t.1]) := by
  have key : ∀ (f : Fo) (a : Nat), f.tame = true → ∀ n ∈ f.lay a, n.words.length ≤ 2 ∧ n.nums.length ≤ 4 ∧ n.kids.length ≤ f.cnt ∧ ∀ w ∈ n.words, w.length ≤ 4000 := by
    intro f
    induction f with
    | nil => intro a _ n hn; simp [Fo.lay] at hn
    | cons m k r ih1 ih2 =>
      intro a hf n hn
      simp only [Fo.tame, Bool.and_eq_true] at hf
      simp only [Fo.lay, List.mem_cons, List.mem_append] at hn
      simp only [Fo.cnt]
      rcases hn with rfl | hn | hn
      · have h0 := hf.1
        unfold tameN at h0
        simp only [Bool.and_eq_true, decide_eq_true_eq, List.all_eq_true] at h0
        have := Fo.len_cnt k
        exact ⟨h0.1, h0.2.1, by simp only [h0.2.2.2, List.nil_append, Fo.roots_len]; omega, h0.2.2.1⟩
      · have := ih1 (a + 1) hf.2.1 n hn; exact ⟨this.1, this.2.1, by omega, this.2.2.2⟩
      · have := ih2 (a + 1 + k.cnt) hf.2.2 n hn; exact ⟨this.1, this.2.1, by omega, this.2.2.2⟩
  rw [layF_layT] at hl ⊢
  rw [layT_len] at hl
  have ht2 : (Fo.cons t.1 t.2 .nil).tame = true := by unfold tameT at ht; simpa [Fo.tame] using ht
  have h := key _ 0 ht2
  have hc : (Fo.cons t.1 t.2 .nil).cnt = 1 + t.2.cnt := by simp [Fo.cnt]
  rw [hc] at h
  exact ⟨by rw [layT_len]; omega, fun i n hi => by have := h n (List.mem_of_getElem? hi); omega, fun i n hi => by have := h n (List.mem_of_getElem? hi); omega, fun i n hi => by have := h n (List.mem_of_getElem? hi); omega,
    fun i n hi w hw => by have := (h n (List.mem_of_getElem? hi)).2.2.2 w hw; omega⟩
end Go.Proofs.YtcffdpmmadipeaaDoor


/- The law ShowFixed. -/
namespace Go.HL
theorem str_of {b : ByteArray} (h : b.size ≤ maxLen) : ∃ s : Str, b = bs s ∧ s.length ≤ 9223372036854775807 := by
  refine ⟨b.data.toList, by unfold bs; rfl, ?_⟩
  rw [Array.length_toList]
  exact Nat.le_trans h (by decide)
end Go.HL
namespace Go.Proofs.YtcffdpmmadipeaaDoor
open Go.HL
set_option maxRecDepth 10000
set_option linter.unusedSimpArgs false
set_option linter.unusedVariables false

theorem parse_nil : parseM 60 [] = some (layT ⟨0, [], [], [], 0⟩ .nil, ⟨0, 0⟩) := by decide +kernel
theorem rt_nil : RT ⟨0, [], [], [], 0⟩ .nil := ⟨rfl, by decide +kernel, by decide +kernel, by decide +kernel, by decide +kernel⟩
/-- What is shown is read as a tree that is shown so. -/
theorem show_again (l : List Nd) (h : (showM l).length ≤ 4000) : ∃ j n' k', RT n' k' ∧ parseM j (showM l) = some (layT n' k', ⟨0, 0⟩) ∧ showT k' = showM l := by
  cases hr : prRightM l with
  | false => rw [showM_no hr]; exact ⟨60, _, .nil, rt_nil, parse_nil, rfl⟩
  | true =>
    obtain ⟨n, k, hrt, rfl⟩ := right_rt hr
    rw [showM_lay hrt] at h ⊢
    obtain ⟨j, k', p, e1, rt', ep, -⟩ := show_back hrt h
    exact ⟨j, _, k', rt', ep, show_st e1⟩
section
variable {H : Heap} {s : Str}
set_option maxHeartbeats 1000000 in
theorem showFixed_spec (hs : s.length ≤ 9223372036854775807) (gt : GT H) : CallF Tryd.prog 4 [sv s] H (fun r H' => r = .bool true ∧ Fr [] H H') NoP := by
  have wake : ∀ {H' : Heap}, Fr [] H H' → CallF Tryd.prog 7 [] H' (fun r H'' => r = .bool true ∧ Fr [] H' H'') NoP := fun f => w10awake_spec (gt.grow f)
  refine callF_of Tryd.func4 rfl Tryd.ntmps4 Tryd.results4 (by decide) rfl ?_
  simp (disch := omega) only [go_sem, ↓cB, dB]
  refine call_to (w10awake_spec gt) ?_
  intro v H1 hv
  refine Hush.out ?_
  obtain ⟨rfl, f1⟩ := hv
  refine ⟨?_⟩
  by_cases h15 : (1500 : Int) < s.length
  · simp (disch := omega) only [go_sem, ↓cB, dB, h15, decide_true]
    refine call_to (wake f1) ?_
    intro v H3 hv
    refine Hush.out ?_
    obtain ⟨rfl, f3⟩ := hv
    refine ⟨?_⟩
    simp (disch := omega) only [go_sem, ↓cB, dB]
    exact fin ⟨rfl, f1.trans f3⟩
  simp (disch := omega) only [go_sem, ↓cB, dB, h15, decide_false]
  obtain ⟨j, res, hp, hres⟩ := parse_total s
  refine call_to (parse_spec hp) ?_
  intro v H2 hv
  refine Hush.out ?_
  obtain ⟨v1, rfl, f2, nl2⟩ := hv
  refine ⟨?_⟩
  have f02 := (f1.trans f2).trans (Fr.push (o := .cells #[iv res.2.err, iv res.2.pos] 28))
  rcases hres with ⟨-, he⟩ | ⟨t, ht, rfl, hl⟩
  · simp (disch := omega) only [go_sem, ↓cB, dB, fltV, he, ne_eq, not_false_eq_true, decide_true]
    exact fin ⟨rfl, f02⟩
  have hz := lay_sz ht hl
  simp (disch := omega) only [go_sem, ↓cB, dB, fltV]
  refine call_to (wShow_spec (nl2.grow Fr.push) hz (gt.grow f02)) ?_
  intro v H4 hv
  refine Hush.out ?_
  obtain ⟨f4, rfl⟩ := hv
  refine ⟨?_⟩
  have f04 := f02.trans f4
  have ag := show_again (layF t.2 0 [t.1])
  have hml := showM_len (layF t.2 0 [t.1])
  generalize showM (layF t.2 0 [t.1]) = u at *
  simp (disch := omega) only [go_sem, ↓cB, dB]
  by_cases h4 : u.length ≤ 4000
  · obtain ⟨j2, n2, k2, rt2, ep, e2⟩ := ag h4
    refine call_to (parse_spec ep) ?_
    intro v H5 hv
    refine Hush.out ?_
    obtain ⟨v2, rfl, f5, nl5⟩ := hv
    refine ⟨?_⟩
    have f05 := (f04.trans f5).trans (Fr.push (o := .cells #[iv 0, iv 0] 28))
    have h4' : ¬ ((4000 : Int) < u.length) := by omega
    simp (disch := omega) only [go_sem, ↓cB, dB, fltV, h4', decide_false, flt_same, decide_true, Bool.and_self]
    refine call_to (wShow_spec (nl5.grow Fr.push) rt2.sz (gt.grow f05)) ?_
    intro v H6 hv
    refine Hush.out ?_
    obtain ⟨f6, rfl⟩ := hv
    refine ⟨?_⟩
    rw [showM_lay rt2, e2]
    simp (disch := omega) only [go_sem, ↓cB, dB, decide_true]
    exact fin ⟨rfl, f05.trans f6⟩
  · refine call_to (parse_spec (parse_long (by omega))) ?_
    intro v H5 hv
    refine Hush.out ?_
    obtain ⟨v2, rfl, f5, nl5⟩ := hv
    refine ⟨?_⟩
    have h4' : (4000 : Int) < u.length := by omega
    simp (disch := omega) only [go_sem, ↓cB, dB, fltV, h4', decide_true]
    exact fin ⟨rfl, (f04.trans f5).trans Fr.push⟩
end
end Go.Proofs.YtcffdpmmadipeaaDoor


/- Proved: the card of the law ShowFixed: for every input it returns true, and its arguments read as they did; what its row lists is tied to the program's text. -/
namespace Go.Proofs.YtcffdpmmadipeaaDoor.showFixed
open Go Go.ChangeShapes Go.WideShapes Go.ChangeAt Go.RowKit Go.HL
set_option linter.unusedVariables false

theorem own : ownKnob Tryd.prog.godebug = none := by kernel_rfl
theorem laidOut : laidOutB Tryd.prog = true := by kernel_rfl

set_option maxRecDepth 100000 in
theorem lifted (os : Os) (started : os.Started) (H : Type) (enc : TypeId × Value → H) :
    ReturnsInHanded {} Tryd.checked os 4 .any (fun w args => (Rows.showFixedSpec.pre enc Tryd.prog Tryd.f4 [] false w args ∧ laidMetH Tryd.prog Rows.showFixedRow.laid w) ∧ sizedMet enc Tryd.prog Tryd.f4 (OpenSpec.ofChange Rows.showFixedSpec) false w args)
      (Rows.showFixedSpec.post enc Tryd.prog Tryd.f4 false true false false) := by
  refine returnsInHanded_of_change_and (C := Tryd.checked) (X := fun w _ => laidMetH Tryd.prog Rows.showFixedRow.laid w) (fun _ _ _ hh h => h.of_heap hh) own started (by kernel_rfl) Tryd.func4
    (ChangeSpec.witness_shaped (enc := enc) (C := Tryd.checked) (os := os) (X := fun w _ => laidMetH Tryd.prog Rows.showFixedRow.laid w) false (World.doorLaid Tryd.prog 400 os) #[.string ⟨#[]⟩] 8 rfl (World.shaped_of_RefB (by kernel_rfl) (by kernel_rfl)) (by kernel_rfl) (by kernel_rfl) (by kernel_rfl) (door_met os _)) ?_
  intro W base args ds gs before hval0 hW _ _ hL _
  have hval : ∀ (j : Nat) t v, Tryd.f4.params[j]? = some t → args[j]? = some v → Value.okWide Tryd.prog W .any base t v := hval0
  have hW' := hW
  obtain ⟨p, q, hA0, hV, rfl, hfz, hnd⟩ := hW
  have hA : DataW.TrodAll enc Tryd.prog W 0 (fun _ => true) true Tryd.f4.params.toList args.toList ds p := hA0
  rw [Tryd.params4] at hA hval
  obtain ⟨v0, d0, rfl, rfl, t0⟩ := trodAll_one hA
  obtain ⟨rfl, rfl⟩ := trodVars_none hV
  have gt := gt_of hL
  obtain ⟨b0, rfl, rfl, rfl, hb0⟩ := Go.ChangeMaps.open_string Tryd.underlying9 (hval 0 9 v0 rfl rfl) t0
  obtain ⟨s0, rfl, h0⟩ := str_of hb0
  have hcall := hcalls_of_callF Tryd.func4 rfl (by decide) ((showFixed_spec h0 gt))
  refine (calls_of_hcalls hcall (R := fun W' => Below W.heap.size W W') (fun W' hb => hb)).mono ?_
  rintro e W' ⟨v, rfl, rfl, hb⟩
  exact ⟨_, rfl, law_post laidOut (by rw [Tryd.params4]; intro t ht; simp at ht; subst ht; exact ⟨by kernel_rfl, of_decide_eq_true (by kernel_rfl)⟩) (tb := 4) (by kernel_rfl) Tryd.underlying4 rfl rfl rfl rfl hW' hb⟩

theorem said : Rows.ShowFixedSaid :=
  OpenClaim.holds_of_wide 4 Tryd.f4 rfl rfl rfl rfl rfl rfl rfl ⟨rfl, rfl, rfl, rfl, rfl⟩ rfl rfl rfl rfl rfl (by kernel_rfl) Tryd.func4 (by kernel_rfl)
    (of_decide_eq_true (by kernel_rfl)) (by unfold Func.isWrapper; first | (rw [if_pos (by decide +kernel)]; kernel_rfl) | (rw [if_neg (by decide +kernel)]; exact ⟨rfl, rfl⟩))
    (fun os started H enc _ => lifted os started H enc)
theorem proved : Rows.ShowFixedCardSaid :=
  Claim7.holds_tied_plain_at .later [] [.data, .data, .data, .data, .data] true (true, "d9db36a1a2fb3f620f4bbc409713c8e5579d8ff23c35a53dd233920b41e45cce") false
    said (fun _ h => by cases h) (by kernel_rfl) (fun _ h => by cases h) showFixed_row_tie rfl ⟨rfl, rfl⟩ (by kernel_rfl) rfl
    (fun f fn hf hfn => by
      obtain rfl : f = 4 := Option.some.inj ((show Tryd.prog.funcNamed "weirgate/weirgatelaw10.ShowFixed" = some 4 by kernel_rfl).symm.trans hf) |>.symm
      obtain rfl : fn = Tryd.f4 := (Option.some.inj (Tryd.func4.symm.trans hfn)).symm
      exact ⟨by kernel_rfl, fun j t ht => by
        have hm : t ∈ Tryd.f4.params.toList := by simpa using Array.mem_of_getElem? ht
        have hall : (Tryd.f4.params.toList.all fun u => !Tryd.prog.wantsStandIn u) = true := by kernel_rfl
        exact (show Tryd.prog.wantsStandIn t = false by simpa using List.all_eq_true.1 hall t hm)⟩)
    (by kernel_rfl)
#print axioms proved
end Go.Proofs.YtcffdpmmadipeaaDoor.showFixed
