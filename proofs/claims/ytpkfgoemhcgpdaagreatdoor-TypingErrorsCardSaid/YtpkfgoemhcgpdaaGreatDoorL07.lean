/- The document's bytes, words and names. -/
import Derived.Test.YtpkfgoemhcgpdaaGreatDoorT
namespace Go.Proofs.YtpkfgoemhcgpdaaGreatDoor
open Go.HL
set_option maxRecDepth 10000
set_option linter.unusedSimpArgs false

abbrev hp (p : Nat) : Value := .pointer (some ⟨p, 0, none⟩)
abbrev iv (n : Int) : Value := .int .i64 n
section
variable {α : Type} {p : α → Bool} {l : List α} {i : Nat} {x : α}
theorem any_hit (h : l[i]? = some x) (hp : p x = true) : l.any p = true := List.any_eq_true.2 ⟨x, List.mem_of_getElem? h, hp⟩
theorem any_step (h : l[i]? = some x) (h0 : (l.take i).any p = false) (hp : p x = false) : (l.take (i + 1)).any p = false := by
  rw [List.take_add_one, h]; simp [h0, hp]
theorem any_end (h0 : (l.take i).any p = false) (hi : l.length ≤ i) : l.any p = false := by rwa [List.take_of_length_le hi] at h0
theorem all_hit (h : l[i]? = some x) (hp : p x = false) : l.all p = false := by
  rw [← Bool.not_eq_true, List.all_eq_true]; intro hh; have := hh x (List.mem_of_getElem? h); simp [hp] at this
theorem all_step (h : l[i]? = some x) (h0 : (l.take i).all p = true) (hp : p x = true) : (l.take (i + 1)).all p = true := by
  rw [List.take_add_one, h]; simp [h0, hp]
theorem all_end (h0 : (l.take i).all p = true) (hi : l.length ≤ i) : l.all p = true := by rwa [List.take_of_length_le hi] at h0
end

def letterM (c : UInt8) : Bool := decide (65 ≤ c.toNat ∧ c.toNat ≤ 90 ∨ 97 ≤ c.toNat ∧ c.toNat ≤ 122)
def digitM (c : UInt8) : Bool := decide (48 ≤ c.toNat ∧ c.toNat ≤ 57)
def wordM (c : UInt8) : Bool := letterM c || digitM c || decide (c.toNat = 95)
def twoM (s : Str) (i : Nat) : Str := if i + 2 ≤ s.length then (s.take (i + 2)).drop i else []
section
variable {H : Heap} {s : Str} {c : UInt8}
theorem r8letter_spec : CallF Tryz.prog 36 [u8v c] H (fun r H' => H = H' ∧ r = .bool (letterM c)) NoP := by
  refine callF_of Tryz.func36 rfl Tryz.ntmps36 Tryz.results36 (by decide) rfl ?_
  by_cases h1 : 65 ≤ c.toNat <;> by_cases h2 : c.toNat ≤ 90 <;> by_cases h3 : 97 ≤ c.toNat <;> by_cases h4 : c.toNat ≤ 122 <;> first | omega | skip
  all_goals
    simp (disch := omega) only [go_sem, ↓cw_block, dsB_of]
    exact fin ⟨rfl, by unfold letterM; simp [h1, h2, h3, h4] <;> omega⟩
theorem r8digit_spec : CallF Tryz.prog 38 [u8v c] H (fun r H' => H = H' ∧ r = .bool (digitM c)) NoP := by
  refine callF_of Tryz.func38 rfl Tryz.ntmps38 Tryz.results38 (by decide) rfl ?_
  by_cases h1 : 48 ≤ c.toNat <;> by_cases h2 : c.toNat ≤ 57 <;> first | omega | skip
  all_goals
    simp (disch := omega) only [go_sem, ↓cw_block, dsB_of]
    exact fin ⟨rfl, by unfold digitM; simp [h1, h2] <;> omega⟩
theorem r8word_spec : CallF Tryz.prog 37 [u8v c] H (fun r H' => H = H' ∧ r = .bool (wordM c)) NoP := by
  refine callF_of Tryz.func37 rfl Tryz.ntmps37 Tryz.results37 (by decide) rfl ?_
  simp (disch := omega) only [go_sem, ↓cw_block, dsB_of]
  refine call_to r8letter_spec ?_
  rintro _ _ ⟨rfl, rfl⟩
  cases h1 : letterM c
  · simp (disch := omega) only [go_sem, ↓cw_block, dsB_of]
    refine call_to r8digit_spec ?_
    rintro _ _ ⟨rfl, rfl⟩
    cases h2 : digitM c
    · by_cases h3 : c.toNat = 95
      · simp (disch := omega) only [go_sem, ↓cw_block, dsB_of]
        exact fin ⟨rfl, by unfold wordM; simp [h1, h2, h3] <;> omega⟩
      · simp (disch := omega) only [go_sem, ↓cw_block, dsB_of]
        exact fin ⟨rfl, by unfold wordM; simp [h1, h2, h3] <;> omega⟩
    · simp (disch := omega) only [go_sem, ↓cw_block, dsB_of]
      exact fin ⟨rfl, by unfold wordM; simp [h1, h2]⟩
  · simp (disch := omega) only [go_sem, ↓cw_block, dsB_of]
    exact fin ⟨rfl, by unfold wordM; simp [h1]⟩
theorem r8has_spec (hl : s.length ≤ 100000000) : CallF Tryz.prog 34 [sv s, u8v c] H (fun r H' => H = H' ∧ r = .bool (s.any (· == c))) NoP := by
  refine callF_of Tryz.func34 rfl Tryz.ntmps34 Tryz.results34 (by decide) rfl ?_
  simp (disch := omega) only [go_sem, ↓cw_block, dsB_of]
  refine loop_by (fun k ρ H1 => ∃ (i : Nat), k = s.length - i ∧ i ≤ s.length ∧ H1 = H ∧ (ρ.get 0 = sv s ∧ ρ.get 1 = u8v c ∧ ρ.get 5 = iv i ∧ ρ.ds = []) ∧ (s.take i).any (· == c) = false) (k := s.length) ?_ ?_
  · exact ⟨0, rfl, by omega, rfl, by simp (disch := omega) only [go_sem, ↓cw_block, dsB_of], by simp⟩
  · rintro k ρ _ ⟨i, rfl, hi, rfl, ⟨r0, r1, r5, rd⟩, h0⟩
    have hi1 : (i : Int) + 1 = ((i + 1 : Nat) : Int) := by omega
    by_cases hin : i < s.length
    · have hb := bt8_lt hin
      by_cases he : (bt8 s i).toNat = c.toNat
      · simp (disch := omega) only [go_sem, ↓cw_block, dsB_of, r0, r1, r5, rd]
        exact fin ⟨rfl, by rw [any_hit hb (by simp; exact UInt8.toNat_inj.1 he)]⟩
      · simp (disch := omega) only [go_sem, ↓cw_block, dsB_of, r0, r1, r5, rd]
        exact fin ⟨s.length - (i + 1), by omega, i + 1, rfl, by omega, rfl, by simp (disch := omega) only [go_sem, ↓cw_block, dsB_of, r0, r1, r5, rd, hi1], any_step hb h0 (by simp; intro h; exact he (by rw [h]))⟩
    · simp (disch := omega) only [go_sem, ↓cw_block, dsB_of, r0, r1, r5, rd]
      exact fin ⟨rfl, by rw [any_end h0 (by omega)]⟩
theorem r8two_spec {i : Nat} (hi : i ≤ 100000000) : CallF Tryz.prog 35 [sv s, iv i] H (fun r H' => H = H' ∧ r = sv (twoM s i)) NoP := by
  refine callF_of Tryz.func35 rfl Tryz.ntmps35 Tryz.results35 (by decide) rfl ?_
  have e : (i : Int) + 2 = ((i + 2 : Nat) : Int) := by omega
  by_cases h : i + 2 ≤ s.length
  · simp (disch := omega) only [go_sem, ↓cw_block, dsB_of, e]
    exact fin ⟨rfl, by unfold twoM; rw [if_pos h]⟩
  · simp (disch := omega) only [go_sem, ↓cw_block, dsB_of, e]
    exact fin ⟨rfl, by unfold twoM; rw [if_neg h]⟩

def keysM : List Str := [[99, 104, 97, 110], [111, 102], [108, 111, 115, 115, 121], [99, 111, 112, 121, 105, 110, 103], [118, 97, 114], [112, 114, 111, 99], [115, 97, 102, 101], [100, 101, 97, 100, 108, 111, 99, 107], [115, 101, 110, 100], [114, 101, 99, 118], [105, 100, 108, 101], [119, 104, 101, 110], [99, 104, 111, 111, 115, 101], [111, 114], [105, 102], [101, 108, 115, 101], [119, 104, 105, 108, 101], [97, 116, 111, 109, 105, 99], [115, 107, 105, 112], [115, 116, 111, 112], [108, 101, 110]]
def keyM (s : Str) : Bool := keysM.any (· == s)
theorem keys_build : buildSliceV Tryz.prog H 66 21 (enumV (keysM.map sv)) = some (.slice (some ⟨H.size, 0, none⟩) 21 21, H.push (.cells (keysM.map sv).toArray 9)) := by
  have := bsl_sound (P := Tryz.prog) (H := H) (t := 66) (vs := keysM.map sv) (r := (.slice (some ⟨H.size, 0, none⟩) 21 21, H.push (.cells (keysM.map sv).toArray 9))) (by unfold bsl; simp only [T.elem66, T.size9]; rfl)
  exact this
theorem r8Key_spec : CallF Tryz.prog 74 [sv s] H (fun r H' => Fr [] H H' ∧ r = .bool (keyM s)) NoP := by
  have hb := keys_build (H := H)
  simp only [keysM, List.map, enumV, List.zipIdx, Nat.reduceAdd] at hb
  refine callF_of Tryz.func74 rfl Tryz.ntmps74 Tryz.results74 (by decide) rfl ?_
  simp (disch := omega) only [go_sem, ↓cw_block, dsB_of, hb]
  have hblk : Blk (H.push (.cells (keysM.map sv).toArray 9)) H.size 9 (keysM.map sv) := Blk.new rfl
  refine loop_by (fun k ρ H1 => ∃ (i : Nat), k = keysM.length - i ∧ i ≤ keysM.length ∧ H1 = H.push (.cells (keysM.map sv).toArray 9) ∧ (ρ.get 0 = sv s ∧ ρ.get 3 = .slice (some ⟨H.size, 0, none⟩) 21 21 ∧ ρ.get 4 = iv i ∧ ρ.ds = []) ∧ (keysM.take i).any (· == s) = false) (k := keysM.length) ?_ ?_
  · exact ⟨0, rfl, by omega, rfl, by simp (disch := omega) only [go_sem, ↓cw_block, dsB_of], by simp⟩
  · rintro k ρ _ ⟨i, rfl, hi, rfl, ⟨r0, r3, r4, rd⟩, h0⟩
    have hk : keysM.length = 21 := rfl
    have hi1 : (i : Int) + 1 = ((i + 1 : Nat) : Int) := by omega
    by_cases hin : i < keysM.length
    · have hx : keysM[i]? = some keysM[i] := List.getElem?_eq_getElem hin
      generalize keysM[i] = x at hx
      have hc : cellH (H.push (.cells (keysM.map sv).toArray 9)) ⟨H.size, i, none⟩ = some (sv x) := by rw [hblk.cell, List.getElem?_map, hx]; rfl
      by_cases he : x = s
      · simp (disch := omega) only [go_sem, ↓cw_block, dsB_of, r0, r3, r4, rd, hc]
        exact fin ⟨Fr.push, by unfold keyM; rw [any_hit hx (by simpa using he)]⟩
      · simp (disch := omega) only [go_sem, ↓cw_block, dsB_of, r0, r3, r4, rd, hc]
        exact fin ⟨keysM.length - (i + 1), by omega, i + 1, rfl, by omega, rfl, by simp (disch := omega) only [go_sem, ↓cw_block, dsB_of, r0, r3, r4, rd, hi1], any_step hx h0 (by simpa using he)⟩
    · simp (disch := omega) only [go_sem, ↓cw_block, dsB_of, r0, r3, r4, rd]
      exact fin ⟨Fr.push, by unfold keyM; rw [any_end h0 (by omega)]⟩
def nameM (s : Str) : Bool := decide (s.length ≠ 0 ∧ s.length ≤ 12) && letterM (bt8 s 0) && !keyM s && s.all wordM
theorem r8Name_spec : CallF Tryz.prog 77 [sv s] H (fun r H' => Fr [] H H' ∧ r = .bool (nameM s)) NoP := by
  refine callF_of Tryz.func77 rfl Tryz.ntmps77 Tryz.results77 (by decide) rfl ?_
  by_cases h1 : s.length = 0
  · simp (disch := omega) only [go_sem, ↓cw_block, dsB_of]
    exact fin ⟨Fr.refl _ _, by unfold nameM; simp [h1]⟩
  by_cases h2 : s.length ≤ 12
  · simp (disch := omega) only [go_sem, ↓cw_block, dsB_of]
    refine call_to r8letter_spec ?_
    rintro _ _ ⟨rfl, rfl⟩
    cases h3 : letterM (bt8 s 0)
    · simp (disch := omega) only [go_sem, ↓cw_block, dsB_of]
      exact fin ⟨Fr.refl _ _, by unfold nameM; simp [h3]⟩
    · simp (disch := omega) only [go_sem, ↓cw_block, dsB_of]
      refine call_to r8Key_spec ?_
      rintro _ H1 ⟨f1, rfl⟩
      cases h4 : keyM s
      · simp (disch := omega) only [go_sem, ↓cw_block, dsB_of]
        refine loop_by (fun k ρ H2 => ∃ (i : Nat), k = s.length - i ∧ i ≤ s.length ∧ H2 = H1 ∧ (ρ.get 0 = sv s ∧ ρ.get 3 = iv i ∧ ρ.ds = []) ∧ (s.take i).all wordM = true) (k := s.length) ?_ ?_
        · exact ⟨0, rfl, by omega, rfl, by simp (disch := omega) only [go_sem, ↓cw_block, dsB_of], by simp⟩
        · rintro k ρ _ ⟨i, rfl, hi, rfl, ⟨r0, r3, rd⟩, h0⟩
          have hi1 : (i : Int) + 1 = ((i + 1 : Nat) : Int) := by omega
          by_cases hin : i < s.length
          · have hb := bt8_lt hin
            simp (disch := omega) only [go_sem, ↓cw_block, dsB_of, r0, r3, rd]
            refine call_to r8word_spec ?_
            rintro _ _ ⟨rfl, rfl⟩
            cases h5 : wordM (bt8 s i)
            · simp (disch := omega) only [go_sem, ↓cw_block, dsB_of, r0, r3, rd]
              exact fin ⟨f1, by unfold nameM; rw [all_hit hb h5]; simp⟩
            · simp (disch := omega) only [go_sem, ↓cw_block, dsB_of, r0, r3, rd]
              exact fin ⟨s.length - (i + 1), by omega, i + 1, rfl, by omega, rfl, by simp (disch := omega) only [go_sem, ↓cw_block, dsB_of, r0, r3, rd, hi1], all_step hb h0 h5⟩
          · simp (disch := omega) only [go_sem, ↓cw_block, dsB_of, r0, r3, rd]
            exact fin ⟨f1, by unfold nameM; rw [all_end h0 (by omega)]; simp [h1, h2, h3, h4]⟩
      · simp (disch := omega) only [go_sem, ↓cw_block, dsB_of]
        exact fin ⟨f1, by unfold nameM; simp [h4]⟩
  · simp (disch := omega) only [go_sem, ↓cw_block, dsB_of]
    exact fin ⟨Fr.refl _ _, by unfold nameM; simp [h2]⟩
end
end Go.Proofs.YtpkfgoemhcgpdaaGreatDoor

namespace Go.Proofs.YtpkfgoemhcgpdaaGreatDoor
open Go.HL
set_option maxRecDepth 10000
set_option linter.unusedSimpArgs false

structure Tok where
  kind : Int
  s : Str
  pos : Nat
  deriving DecidableEq
def tokC (t : Tok) : List Value := [iv t.kind, sv t.s, iv t.pos]
structure Flt where
  err : Int
  pos : Int
  deriving DecidableEq
def fltV (f : Flt) : Value := .agg #[iv f.err, iv f.pos]
/-- The end of what runs on from a place. -/
def spanM (p : UInt8 → Bool) (s : Str) (k : Nat) : Nat := k + ((s.drop k).takeWhile p).length
theorem span_yes {p : UInt8 → Bool} {s : Str} {k : Nat} (h : k < s.length) (hp : p (bt8 s k) = true) : spanM p s k = spanM p s (k + 1) := by
  unfold spanM
  have e : s.drop k = bt8 s k :: s.drop (k + 1) := by
    rw [List.drop_eq_getElem_cons h]; congr 1; unfold bt8; simp [h]
  rw [e, List.takeWhile_cons_of_pos hp]; simp; omega
theorem span_no {p : UInt8 → Bool} {s : Str} {k : Nat} (h : k < s.length) (hp : p (bt8 s k) = false) : spanM p s k = k := by
  unfold spanM
  have e : s.drop k = bt8 s k :: s.drop (k + 1) := by
    rw [List.drop_eq_getElem_cons h]; congr 1; unfold bt8; simp [h]
  rw [e, List.takeWhile_cons_of_neg (by simp [hp])]; simp
theorem span_end {p : UInt8 → Bool} {s : Str} {k : Nat} (h : s.length ≤ k) : spanM p s k = k := by
  unfold spanM; rw [List.drop_eq_nil_of_le h]; simp
theorem span_le {p : UInt8 → Bool} {s : Str} {k : Nat} (h : k ≤ s.length) : spanM p s k ≤ s.length := by
  unfold spanM; have := (List.takeWhile_sublist p (l := s.drop k)).length_le; simp at this; omega
theorem span_ge {p : UInt8 → Bool} {s : Str} {k : Nat} : k ≤ spanM p s k := by unfold spanM; omega
def blankS : Str := [32, 9, 13, 10]
def signS : Str := [123, 125, 91, 93, 40, 41, 59, 61, 60, 43, 45, 42, 47, 37, 33]
def tokEnd (s : Str) (i : Nat) : Nat × Int :=
  if twoM s i = [61, 61] ∨ twoM s i = [38, 38] ∨ twoM s i = [124, 124] then (i + 2, 2)
  else if letterM (bt8 s i) then (spanM wordM s i, 0)
  else if digitM (bt8 s i) then (spanM digitM s i, 1)
  else if signS.any (· == bt8 s i) then (i + 1, 2)
  else (i, 2)
def notNl (c : UInt8) : Bool := !(c == 10)
def tokM (s : Str) : Nat → Nat → List Tok → Option (List Tok × Flt)
  | 0, _, _ => none
  | n + 1, i, out =>
    if i < s.length then
      if blankS.any (· == bt8 s i) then tokM s n (i + 1) out
      else if twoM s i = [47, 47] then tokM s n (spanM notNl s i) out
      else if (tokEnd s i).1 = i ∨ (tokEnd s i).2 = 1 ∧ 6 < (tokEnd s i).1 - i then some ([], ⟨10, i⟩)
      else tokM s n (tokEnd s i).1 (out ++ [⟨(tokEnd s i).2, (s.take (tokEnd s i).1).drop i, i⟩])
    else some (out ++ [⟨3, [], s.length⟩], ⟨0, 0⟩)
def tokensM (n : Nat) (s : Str) : Option (List Tok × Flt) := if 4000 < s.length then some ([], ⟨12, 0⟩) else tokM s n 0 []
theorem two_len {s : Str} {i : Nat} {l : Str} (h : twoM s i = l) (hl : l ≠ []) : i + 2 ≤ s.length := by
  unfold twoM at h; split at h
  · assumption
  · exact absurd h.symm hl
theorem tokEnd_le {s : Str} {i : Nat} (h : i < s.length) : i ≤ (tokEnd s i).1 ∧ (tokEnd s i).1 ≤ s.length := by
  unfold tokEnd
  split
  · rename_i h'; rcases h' with h' | h' | h' <;> have := two_len h' (by simp) <;> simp <;> omega
  · split
    · exact ⟨span_ge, span_le (by omega)⟩
    · split
      · exact ⟨span_ge, span_le (by omega)⟩
      · split <;> simp <;> omega
theorem tokC_len (l : List Tok) : (l.flatMap tokC).length = l.length * 3 := by
  induction l with
  | nil => rfl
  | cons a l ih => simp [tokC, ih]; omega

/-- What the tokens' loop keeps. -/
structure TL (H H1 : Heap) (s : Str) (v : Value) (out : List Tok) : Prop where
  fr : Fr [] H H1
  vec : Vec H1 101 3 v (out.flatMap tokC)
  box : Blk H1 H.size 25 [iv 0, iv 0]
  ow : ∀ b ∈ own v, H.size < b
def TokPost (H : Heap) (res : List Tok × Flt) (r : Value) (H' : Heap) : Prop := ∃ v, r = .tuple #[v, fltV res.2] ∧ Fr [] H H' ∧ Vec H' 101 3 v (res.1.flatMap tokC) ∧ ∀ b ∈ own v, H.size ≤ b
theorem fr_new {F : List Nat} {H H1 H2 : Heap} (h : Fr [] H H1) (h2 : Fr F H1 H2) (hF : ∀ b ∈ F, H.size ≤ b) : Fr [] H H2 :=
  ⟨Nat.le_trans h.size h2.size, fun b hb _ => by rw [h2.same b (Nat.lt_of_lt_of_le hb h.size) (fun e => by have := hF b e; omega)]; exact h.same b hb (by simp)⟩
section
variable {H : Heap} {s : Str}
set_option maxHeartbeats 1000000 in
theorem r8Tokens_spec {n : Nat} {res : List Tok × Flt} (hm : tokensM n s = some res) : CallF Tryz.prog 23 [sv s] H (fun r H' => TokPost H res r H') NoP := by
  unfold tokensM at hm
  refine callF_of Tryz.func23 rfl Tryz.ntmps23 Tryz.results23 (by decide) rfl ?_
  have hb0 : Blk (H.push (.cells #[iv 0, iv 0] 25)) H.size 25 [iv 0, iv 0] := Blk.new rfl
  by_cases hl : 4000 < s.length
  · rw [if_pos hl] at hm
    simp only [Option.some.injEq] at hm; subst hm
    obtain ⟨H2, e1, e2, e3⟩ := store_blk (P := Tryz.prog) (ty := 25) (new := [iv 12, iv 0]) hb0 rfl T.size25 (by simp [oneC])
    have e4 : cellsH (cellH H2) ⟨H.size, 0, none⟩ 0 2 = some [iv 12, iv 0] := e2.cells0
    simp (disch := omega) only [go_sem, ↓cw_block, dsB_of, newPtr, e1, e4]
    exact fin ⟨_, rfl, fr_new Fr.push e3 (by simp), Vec.nil, by simp [own]⟩
  · rw [if_neg hl] at hm
    simp (disch := omega) only [go_sem, ↓cw_block, dsB_of, newPtr]
    refine loop_by (fun k ρ H1 => ∃ (i : Nat) (v : Value) (out : List Tok), tokM s k i out = some res ∧ i ≤ s.length ∧ out.length ≤ i ∧ TL H H1 s v out ∧ (ρ.get 0 = sv s ∧ ρ.get 3 = hp H.size ∧ ρ.get 4 = v ∧ ρ.get 5 = iv i ∧ ρ.ds = [])) (k := n) ?_ ?_
    · exact ⟨0, _, [], hm, by omega, by simp, ⟨Fr.push, Vec.nil, hb0, by simp [own]⟩, by simp (disch := omega) only [go_sem, ↓cw_block, dsB_of, newPtr]⟩
    · rintro k ρ H1 ⟨i, v, out, hk, hi, ho, tl, ⟨r0, r3, r4, r5, rd⟩⟩
      obtain ⟨a, len, cap, rfl, hvl⟩ := tl.vec.len
      rw [tokC_len] at hvl
      have hlen : len = out.length := by omega
      subst hlen
      have hi1 : (i : Int) + 1 = ((i + 1 : Nat) : Int) := by omega
      cases k with
      | zero => simp [tokM] at hk
      | succ k =>
      unfold tokM at hk
      by_cases hin : i < s.length
      · rw [if_pos hin] at hk
        have hb := bt8_lt hin
        simp (disch := omega) only [go_sem, ↓cw_block, dsB_of, r0, r3, r4, r5, rd]
        refine call_to (r8has_spec (s := [32, 9, 13, 10]) (by simp)) ?_
        rintro _ _ ⟨rfl, rfl⟩
        change (if blankS.any (· == bt8 s i) then _ else _) = _ at hk
        have ec : List.any [32, 9, 13, 10] (fun x => x == bt8 s i) = blankS.any (· == bt8 s i) := rfl
        rw [ec]
        cases h1 : blankS.any (· == bt8 s i)
        · rw [h1] at hk
          simp only [Bool.false_eq_true, if_false] at hk
          simp (disch := omega) only [go_sem, ↓cw_block, dsB_of, r0, r3, r4, r5, rd]
          refine call_to (r8two_spec (by omega)) ?_
          rintro _ _ ⟨rfl, rfl⟩
          by_cases h2 : twoM s i = [47, 47]
          · rw [if_pos h2] at hk
            simp (disch := omega) only [go_sem, ↓cw_block, dsB_of, r0, r3, r4, r5, rd]
            refine loop_by (fun k1 ρ H2 => ∃ j : Nat, k1 = s.length - j ∧ i ≤ j ∧ j ≤ s.length ∧ spanM notNl s i = spanM notNl s j ∧ H2 = H1 ∧ (ρ.get 0 = sv s ∧ ρ.get 3 = hp H.size ∧ ρ.get 4 = .slice a out.length cap ∧ ρ.get 5 = iv j ∧ ρ.ds = [])) (k := s.length - i) ?_ ?_
            · exact ⟨i, rfl, by omega, by omega, rfl, rfl, by simp (disch := omega) only [go_sem, ↓cw_block, dsB_of, r0, r3, r4, r5, rd]⟩
            · rintro k1 ρ _ ⟨j, rfl, hj, hjl, hsp, rfl, ⟨r0, r3, r4, r5, rd⟩⟩
              have hj1 : (j : Int) + 1 = ((j + 1 : Nat) : Int) := by omega
              by_cases hjn : j < s.length
              · by_cases hc : (bt8 s j).toNat = 10
                · simp (disch := omega) only [go_sem, ↓cw_block, dsB_of, r0, r3, r4, r5, rd]
                  have e : spanM notNl s i = j := by rw [hsp, span_no hjn (by unfold notNl; simp; exact UInt8.toNat_inj.1 hc)]
                  rw [e] at hk
                  exact fin ⟨k, by omega, j, .slice a out.length cap, out, hk, by omega, by omega, tl, by simp (disch := omega) only [go_sem, ↓cw_block, dsB_of, r0, r3, r4, r5, rd, hi1]⟩
                · simp (disch := omega) only [go_sem, ↓cw_block, dsB_of, r0, r3, r4, r5, rd]
                  exact fin ⟨s.length - (j + 1), by omega, j + 1, rfl, by omega, by omega, by rw [hsp, span_yes hjn (by unfold notNl; simp; intro h; exact hc (by rw [h]; rfl))], rfl, by simp (disch := omega) only [go_sem, ↓cw_block, dsB_of, r0, r3, r4, r5, rd, hj1]⟩
              · simp (disch := omega) only [go_sem, ↓cw_block, dsB_of, r0, r3, r4, r5, rd]
                have e : spanM notNl s i = j := by rw [hsp, span_end (by omega)]
                rw [e] at hk
                exact fin ⟨k, by omega, j, .slice a out.length cap, out, hk, by omega, by omega, tl, by simp (disch := omega) only [go_sem, ↓cw_block, dsB_of, r0, r3, r4, r5, rd, hi1]⟩
          · rw [if_neg h2] at hk
            have hte := tokEnd_le hin
            simp (disch := omega) only [go_sem, dsB_of, r0, r3, r4, r5, rd]
            refine cut_at (fun ρ H2 => H2 = H1 ∧ ρ.get 0 = sv s ∧ ρ.get 3 = hp H.size ∧ ρ.get 4 = .slice a out.length cap ∧ ρ.get 5 = iv i ∧ ρ.get 6 = iv (tokEnd s i).1 ∧ ρ.get 7 = iv (tokEnd s i).2 ∧ ρ.ds = []) ?_ ?_
            · simp (disch := omega) only [go_sem, ↓cw_block, dsB_of, r0, r3, r4, r5, rd]
              refine call_to (r8two_spec (by omega)) ?_
              rintro _ _ ⟨rfl, rfl⟩
              by_cases q1 : twoM s i = [61, 61]
              · simp (disch := omega) only [go_sem, ↓cw_block, dsB_of, r0, r3, r4, r5, rd]
                exact fin ⟨rfl, by simp (disch := omega) only [go_sem, ↓cw_block, dsB_of, r0, r3, r4, r5, rd]; simp [tokEnd, q1]⟩
              simp (disch := omega) only [go_sem, ↓cw_block, dsB_of, r0, r3, r4, r5, rd]
              refine call_to (r8two_spec (by omega)) ?_
              rintro _ _ ⟨rfl, rfl⟩
              by_cases q2 : twoM s i = [38, 38]
              · simp (disch := omega) only [go_sem, ↓cw_block, dsB_of, r0, r3, r4, r5, rd]
                exact fin ⟨rfl, by simp (disch := omega) only [go_sem, ↓cw_block, dsB_of, r0, r3, r4, r5, rd]; simp [tokEnd, q2]⟩
              simp (disch := omega) only [go_sem, ↓cw_block, dsB_of, r0, r3, r4, r5, rd]
              refine call_to (r8two_spec (by omega)) ?_
              rintro _ _ ⟨rfl, rfl⟩
              by_cases q3 : twoM s i = [124, 124]
              · simp (disch := omega) only [go_sem, ↓cw_block, dsB_of, r0, r3, r4, r5, rd]
                exact fin ⟨rfl, by simp (disch := omega) only [go_sem, ↓cw_block, dsB_of, r0, r3, r4, r5, rd]; simp [tokEnd, q3]⟩
              simp (disch := omega) only [go_sem, ↓cw_block, dsB_of, r0, r3, r4, r5, rd]
              refine call_to r8letter_spec ?_
              rintro _ _ ⟨rfl, rfl⟩
              cases q4 : letterM (bt8 s i)
              rotate_left
              · simp (disch := omega) only [go_sem, ↓cw_block, dsB_of, r0, r3, r4, r5, rd]
                refine loop_by (fun k1 ρ H2 => ∃ j : Nat, k1 = s.length - j ∧ i ≤ j ∧ j ≤ s.length ∧ spanM wordM s i = spanM wordM s j ∧ H2 = H1 ∧ (ρ.get 0 = sv s ∧ ρ.get 3 = hp H.size ∧ ρ.get 4 = .slice a out.length cap ∧ ρ.get 5 = iv i ∧ ρ.get 6 = iv j ∧ ρ.get 7 = iv 0 ∧ ρ.ds = [])) (k := s.length - i) ?_ ?_
                · exact ⟨i, rfl, by omega, by omega, rfl, rfl, by simp (disch := omega) only [go_sem, ↓cw_block, dsB_of, r0, r3, r4, r5, rd]⟩
                · rintro k1 ρ _ ⟨j, rfl, hj, hjl, hsp, rfl, ⟨r0, r3, r4, r5, r6, r7, rd⟩⟩
                  have hj1 : (j : Int) + 1 = ((j + 1 : Nat) : Int) := by omega
                  by_cases hjn : j < s.length
                  · simp (disch := omega) only [go_sem, ↓cw_block, dsB_of, r0, r3, r4, r5, r6, r7, rd]
                    refine call_to r8word_spec ?_
                    rintro _ _ ⟨rfl, rfl⟩
                    cases hc : wordM (bt8 s j)
                    · simp (disch := omega) only [go_sem, ↓cw_block, dsB_of, r0, r3, r4, r5, r6, r7, rd]
                      have e : spanM wordM s i = j := by rw [hsp, span_no hjn hc]
                      exact fin ⟨rfl, by simp (disch := omega) only [go_sem, ↓cw_block, dsB_of, r0, r3, r4, r5, r6, r7, rd]; simp [tokEnd, q1, q2, q3, q4, e]⟩
                    · simp (disch := omega) only [go_sem, ↓cw_block, dsB_of, r0, r3, r4, r5, r6, r7, rd]
                      exact fin ⟨s.length - (j + 1), by omega, j + 1, rfl, by omega, by omega, by rw [hsp, span_yes hjn hc], rfl, by simp (disch := omega) only [go_sem, ↓cw_block, dsB_of, r0, r3, r4, r5, r6, r7, rd, hj1]⟩
                  · simp (disch := omega) only [go_sem, ↓cw_block, dsB_of, r0, r3, r4, r5, r6, r7, rd]
                    have e : spanM wordM s i = j := by rw [hsp, span_end (by omega)]
                    exact fin ⟨rfl, by simp (disch := omega) only [go_sem, ↓cw_block, dsB_of, r0, r3, r4, r5, r6, r7, rd]; simp [tokEnd, q1, q2, q3, q4, e]⟩
              simp (disch := omega) only [go_sem, ↓cw_block, dsB_of, r0, r3, r4, r5, rd]
              refine call_to r8digit_spec ?_
              rintro _ _ ⟨rfl, rfl⟩
              cases q5 : digitM (bt8 s i)
              rotate_left
              · simp (disch := omega) only [go_sem, ↓cw_block, dsB_of, r0, r3, r4, r5, rd]
                refine loop_by (fun k1 ρ H2 => ∃ j : Nat, k1 = s.length - j ∧ i ≤ j ∧ j ≤ s.length ∧ spanM digitM s i = spanM digitM s j ∧ H2 = H1 ∧ (ρ.get 0 = sv s ∧ ρ.get 3 = hp H.size ∧ ρ.get 4 = .slice a out.length cap ∧ ρ.get 5 = iv i ∧ ρ.get 6 = iv j ∧ ρ.get 7 = iv 1 ∧ ρ.ds = [])) (k := s.length - i) ?_ ?_
                · exact ⟨i, rfl, by omega, by omega, rfl, rfl, by simp (disch := omega) only [go_sem, ↓cw_block, dsB_of, r0, r3, r4, r5, rd]⟩
                · rintro k1 ρ _ ⟨j, rfl, hj, hjl, hsp, rfl, ⟨r0, r3, r4, r5, r6, r7, rd⟩⟩
                  have hj1 : (j : Int) + 1 = ((j + 1 : Nat) : Int) := by omega
                  by_cases hjn : j < s.length
                  · simp (disch := omega) only [go_sem, ↓cw_block, dsB_of, r0, r3, r4, r5, r6, r7, rd]
                    refine call_to r8digit_spec ?_
                    rintro _ _ ⟨rfl, rfl⟩
                    cases hc : digitM (bt8 s j)
                    · simp (disch := omega) only [go_sem, ↓cw_block, dsB_of, r0, r3, r4, r5, r6, r7, rd]
                      have e : spanM digitM s i = j := by rw [hsp, span_no hjn hc]
                      exact fin ⟨rfl, by simp (disch := omega) only [go_sem, ↓cw_block, dsB_of, r0, r3, r4, r5, r6, r7, rd]; simp [tokEnd, q1, q2, q3, q4, q5, e]⟩
                    · simp (disch := omega) only [go_sem, ↓cw_block, dsB_of, r0, r3, r4, r5, r6, r7, rd]
                      exact fin ⟨s.length - (j + 1), by omega, j + 1, rfl, by omega, by omega, by rw [hsp, span_yes hjn hc], rfl, by simp (disch := omega) only [go_sem, ↓cw_block, dsB_of, r0, r3, r4, r5, r6, r7, rd, hj1]⟩
                  · simp (disch := omega) only [go_sem, ↓cw_block, dsB_of, r0, r3, r4, r5, r6, r7, rd]
                    have e : spanM digitM s i = j := by rw [hsp, span_end (by omega)]
                    exact fin ⟨rfl, by simp (disch := omega) only [go_sem, ↓cw_block, dsB_of, r0, r3, r4, r5, r6, r7, rd]; simp [tokEnd, q1, q2, q3, q4, q5, e]⟩
              simp (disch := omega) only [go_sem, ↓cw_block, dsB_of, r0, r3, r4, r5, rd]
              refine call_to (r8has_spec (s := [123, 125, 91, 93, 40, 41, 59, 61, 60, 43, 45, 42, 47, 37, 33]) (by simp)) ?_
              rintro _ _ ⟨rfl, rfl⟩
              have ec : List.any [123, 125, 91, 93, 40, 41, 59, 61, 60, 43, 45, 42, 47, 37, 33] (fun x => x == bt8 s i) = signS.any (· == bt8 s i) := rfl
              rw [ec]
              cases q6 : signS.any (· == bt8 s i)
              · simp (disch := omega) only [go_sem, ↓cw_block, dsB_of, r0, r3, r4, r5, rd]
                exact fin ⟨rfl, by simp (disch := omega) only [go_sem, ↓cw_block, dsB_of, r0, r3, r4, r5, rd]; simp [tokEnd, q1, q2, q3, q4, q5, q6]⟩
              · simp (disch := omega) only [go_sem, ↓cw_block, dsB_of, r0, r3, r4, r5, rd]
                exact fin ⟨rfl, by simp (disch := omega) only [go_sem, ↓cw_block, dsB_of, r0, r3, r4, r5, rd]; simp [tokEnd, q1, q2, q3, q4, q5, q6]⟩
            · rintro ρ2 _ ⟨rfl, r0, r3, r4, r5, r6, r7, rd⟩
              generalize (tokEnd s i).1 = te at *
              generalize (tokEnd s i).2 = tk at *
              by_cases z1 : te = i
              · rw [if_pos (.inl z1)] at hk
                simp only [Option.some.injEq] at hk; subst hk
                obtain ⟨H2, e1, e2, e3⟩ := store_blk (P := Tryz.prog) (ty := 25) (new := [iv 10, iv i]) tl.box rfl T.size25 (by simp [oneC])
                have e4 : cellsH (cellH H2) ⟨H.size, 0, none⟩ 0 2 = some [iv 10, iv i] := e2.cells0
                simp (disch := omega) only [go_sem, ↓cw_block, dsB_of, r0, r3, r4, r5, r6, r7, rd, z1, e1, e4]
                exact fin ⟨_, rfl, fr_new tl.fr e3 (by simp), Vec.nil, by simp [own]⟩
              by_cases z2 : tk = 1
              · by_cases z3 : 6 < te - i
                · rw [if_pos (.inr ⟨z2, z3⟩)] at hk
                  simp only [Option.some.injEq] at hk; subst hk
                  obtain ⟨H2, e1, e2, e3⟩ := store_blk (P := Tryz.prog) (ty := 25) (new := [iv 10, iv i]) tl.box rfl T.size25 (by simp [oneC])
                  have e4 : cellsH (cellH H2) ⟨H.size, 0, none⟩ 0 2 = some [iv 10, iv i] := e2.cells0
                  simp (disch := omega) only [go_sem, ↓cw_block, dsB_of, r0, r3, r4, r5, r6, r7, rd, e1, e4]
                  exact fin ⟨_, rfl, fr_new tl.fr e3 (by simp), Vec.nil, by simp [own]⟩
                · rw [if_neg (by omega)] at hk
                  simp (disch := omega) only [go_sem, ↓cw_block, dsB_of, r0, r3, r4, r5, r6, r7, rd]
                  refine app_lit (n := 1) (new := tokC ⟨tk, (s.take te).drop i, i⟩) T.el60 rfl tl.vec (by simp [tokC, oneC]) rfl (by intro a' l c e; simp only [Value.slice.injEq] at e; obtain ⟨_, rfl, _⟩ := e; omega) ?_
                  intro v' H2 g1 g2 g3 g4
                  obtain ⟨a2, c2, rfl⟩ := g4 _ _ _ rfl
                  have hns : H.size ∉ own (Value.slice a out.length cap) := fun e => by have := tl.ow _ e; omega
                  have b2 := g2.blk tl.box hns
                  have hs1 := tl.fr.size
                  have hbx := tl.box.lt
                  have ow2 : ∀ b ∈ own (Value.slice a2 (out.length + 1) c2), H.size < b := fun b hb => (g3 b hb).elim (tl.ow b) (fun h => by omega)
                  simp (disch := omega) only [go_sem, ↓cw_block, dsB_of, r0, r3, r4, r5, r6, r7, rd]
                  exact fin ⟨k, by omega, te, .slice a2 (out.length + 1) c2, _, hk, by omega, by simp; omega, ⟨fr_new tl.fr g2 (fun b hb => by have := tl.ow b hb; omega), by simpa using g1, b2, ow2⟩, by simp (disch := omega) only [go_sem, ↓cw_block, dsB_of, r0, r3, r4, r5, r6, r7, rd]⟩
              · rw [if_neg (by omega)] at hk
                simp (disch := omega) only [go_sem, ↓cw_block, dsB_of, r0, r3, r4, r5, r6, r7, rd]
                refine app_lit (n := 1) (new := tokC ⟨tk, (s.take te).drop i, i⟩) T.el60 rfl tl.vec (by simp [tokC, oneC]) rfl (by intro a' l c e; simp only [Value.slice.injEq] at e; obtain ⟨_, rfl, _⟩ := e; omega) ?_
                intro v' H2 g1 g2 g3 g4
                obtain ⟨a2, c2, rfl⟩ := g4 _ _ _ rfl
                have hns : H.size ∉ own (Value.slice a out.length cap) := fun e => by have := tl.ow _ e; omega
                have b2 := g2.blk tl.box hns
                have hs1 := tl.fr.size
                have hbx := tl.box.lt
                have ow2 : ∀ b ∈ own (Value.slice a2 (out.length + 1) c2), H.size < b := fun b hb => (g3 b hb).elim (tl.ow b) (fun h => by omega)
                simp (disch := omega) only [go_sem, ↓cw_block, dsB_of, r0, r3, r4, r5, r6, r7, rd]
                exact fin ⟨k, by omega, te, .slice a2 (out.length + 1) c2, _, hk, by omega, by simp; omega, ⟨fr_new tl.fr g2 (fun b hb => by have := tl.ow b hb; omega), by simpa using g1, b2, ow2⟩, by simp (disch := omega) only [go_sem, ↓cw_block, dsB_of, r0, r3, r4, r5, r6, r7, rd]⟩
        · rw [h1] at hk
          simp only [if_true] at hk
          simp (disch := omega) only [go_sem, ↓cw_block, dsB_of, r0, r3, r4, r5, rd]
          exact fin ⟨k, by omega, i + 1, .slice a out.length cap, out, hk, by omega, by omega, tl, by simp (disch := omega) only [go_sem, ↓cw_block, dsB_of, r0, r3, r4, r5, rd, hi1]⟩
      · rw [if_neg hin] at hk
        simp only [Option.some.injEq] at hk; subst hk
        simp (disch := omega) only [go_sem, ↓cw_block, dsB_of, r0, r3, r4, r5, rd]
        refine app_lit (n := 1) (new := tokC ⟨3, [], s.length⟩) T.el60 rfl tl.vec (by simp [tokC, oneC]) rfl (by intro a' l c e; simp only [Value.slice.injEq] at e; obtain ⟨_, rfl, _⟩ := e; omega) ?_
        intro v' H2 g1 g2 g3 g4
        obtain ⟨a2, c2, rfl⟩ := g4 _ _ _ rfl
        have hns : H.size ∉ own (Value.slice a out.length cap) := fun e => by have := tl.ow _ e; omega
        have b2 := g2.blk tl.box hns
        obtain ⟨H3, e1, e2, e3⟩ := store_blk (P := Tryz.prog) (ty := 25) (new := [iv 0, iv 0]) b2 rfl T.size25 (by simp [oneC])
        have e4 : cellsH (cellH H3) ⟨H.size, 0, none⟩ 0 2 = some [iv 0, iv 0] := e2.cells0
        simp (disch := omega) only [go_sem, ↓cw_block, dsB_of, r0, r3, r4, r5, rd, e1, e4]
        have hs1 := tl.fr.size
        have hbx := tl.box.lt
        have ow2 : ∀ b ∈ own (Value.slice a2 (out.length + 1) c2), H.size < b := fun b hb => (g3 b hb).elim (tl.ow b) (fun h => by omega)
        exact fin ⟨_, rfl, fr_new (fr_new tl.fr g2 (fun b hb => by have := tl.ow b hb; omega)) e3 (by simp), by
          have := g1.frame e3 (fun b hb h => by have := ow2 b hb; simp at h; omega)
          simpa using this, fun b hb => by have := ow2 b hb; omega⟩
end
end Go.Proofs.YtpkfgoemhcgpdaaGreatDoor

namespace Go.Proofs.YtpkfgoemhcgpdaaGreatDoor
open Go.HL
set_option maxRecDepth 10000
set_option linter.unusedSimpArgs false
set_option linter.unusedVariables false

structure PS where
  pos : Nat
  deep : Int
  flt : Flt
  deriving DecidableEq
/-- Tokens as they come. -/
structure TW (L : List Tok) : Prop where
  len : L.length ≤ 4001
  fin : ∀ (i : Nat) t, L[i]? = some t → t.kind ≠ 3 → i + 1 < L.length
  num : ∀ (i : Nat) t, L[i]? = some t → t.kind = 1 → t.s.length ≤ 6 ∧ t.s.all digitM = true
def psC (tv : Value) (s : PS) : List Value := [tv, iv s.pos, iv s.deep, iv s.flt.err, iv s.flt.pos]
structure PM (H : Heap) (p : Nat) (tv : Value) (L : List Tok) (s : PS) : Prop where
  self : Blk H p 65 (psC tv s)
  toks : Rd H (· < p) 3 tv (L.flatMap tokC)
  pos : s.pos < L.length
theorem tokL (t : Tok) : (tokC t).length = 3 := rfl
def tkM (L : List Tok) (s : PS) : Tok := L.getD s.pos ⟨0, [], 0⟩
def okM (s : PS) : Bool := decide (s.flt.err = 0)
def badM (L : List Tok) (e : Int) (s : PS) : PS := if s.flt.err = 0 then { s with flt := ⟨e, (tkM L s).pos⟩ } else s
def seesM (L : List Tok) (w : Str) (s : PS) : Bool := okM s && decide ((tkM L s).s = w) && (decide ((tkM L s).kind = 2) || decide ((tkM L s).kind = 0) && keyM w)
def upM (s : PS) : PS := { s with pos := s.pos + 1 }
def takeM (L : List Tok) (w : Str) (s : PS) : Bool × PS := if seesM L w s then (true, upM s) else (false, s)
def mustM (L : List Tok) (w : Str) (s : PS) : PS := if seesM L w s then upM s else badM L 11 s
def isName (L : List Tok) (s : PS) : Bool := decide ((tkM L s).kind = 0) && nameM (tkM L s).s && okM s
def pnameM (L : List Tok) (s : PS) : Str × PS := if isName L s then ((tkM L s).s, upM s) else ([], badM L 11 s)
def valM (l : Str) : Int := l.foldl (fun n c => 10 * n + ((c.toNat : Int) - 48)) 0
def isNum (L : List Tok) (s : PS) : Bool := decide ((tkM L s).kind = 1) && okM s
def pnumM (L : List Tok) (s : PS) : Int × PS := if isNum L s then (valM (tkM L s).s, upM s) else (0, badM L 11 s)
def flagM (L : List Tok) (w : Str) (s : PS) : Int × PS := if seesM L w s then (1, upM s) else (0, s)
def inM (L : List Tok) (s : PS) : PS := if 200 < s.deep + 1 then badM L 12 { s with deep := s.deep + 1 } else { s with deep := s.deep + 1 }
def outM (s : PS) : PS := { s with deep := s.deep - 1 }

section
variable {H H' : Heap} {p : Nat} {tv : Value} {L : List Tok} {s s' : PS}
theorem PM.tk (h : PM H p tv L s) : L[s.pos]? = some (tkM L s) := by
  unfold tkM; rw [List.getD_eq_getElem?_getD, List.getElem?_eq_getElem h.pos]; rfl
theorem PM.grow (h : PM H p tv L s) (hf : Fr [] H H') : PM H' p tv L s :=
  ⟨hf.blk h.self (by simp), h.toks.frame (Keeps.of_fr hf (by simp)), h.pos⟩
theorem PM.re (h : PM H p tv L s) (hb : Blk H' p 65 (psC tv s')) (hf : Fr [p] H H') (hp : s'.pos < L.length) : PM H' p tv L s' :=
  ⟨hb, h.toks.frame (Keeps.of_fr hf (by intro b hb; simp; omega)), hp⟩
theorem PM.over (h : PM H p tv L s) {F : List Nat} (hf : Fr F H H') (hF : ∀ b ∈ F, p < b) : PM H' p tv L s :=
  ⟨hf.blk h.self (fun e => by have := hF p e; omega), h.toks.frame (Keeps.of_fr hf (by intro b hb e; have := hF b e; omega)), h.pos⟩
theorem Fr.more {F G : List Nat} {H H1 H2 : Heap} (h : Fr F H H1) (h2 : Fr G H1 H2) (hG : ∀ b ∈ G, b ∈ F ∨ H.size ≤ b) : Fr F H H2 :=
  ⟨Nat.le_trans h.size h2.size, fun b hb hF => by rw [h2.same b (Nat.lt_of_lt_of_le hb h.size) (fun e => (hG b e).elim hF (fun h => by omega))]; exact h.same b hb hF⟩
theorem PM.lt (h : PM H p tv L s) : p < H.size := h.self.lt
theorem PM.c0 (h : PM H p tv L s) : cellH H ⟨p, 0, none⟩ = some tv := h.self.cell 0
theorem PM.c1 (h : PM H p tv L s) : cellH H ⟨p, 1, none⟩ = some (iv s.pos) := h.self.cell 1
theorem PM.c2 (h : PM H p tv L s) : cellH H ⟨p, 2, none⟩ = some (iv s.deep) := h.self.cell 2
theorem PM.c3 (h : PM H p tv L s) : cellH H ⟨p, 3, none⟩ = some (iv s.flt.err) := h.self.cell 3
theorem PM.c4 (h : PM H p tv L s) : cellH H ⟨p, 4, none⟩ = some (iv s.flt.pos) := h.self.cell 4
theorem PM.w1 (h : PM H p tv L s) (v : Value) : wr H ⟨p, 1, none⟩ v = some (setH H ⟨p, 1, none⟩ v) := h.self.wr (by simp [psC]) v
theorem PM.w2 (h : PM H p tv L s) (v : Value) : wr H ⟨p, 2, none⟩ v = some (setH H ⟨p, 2, none⟩ v) := h.self.wr (by simp [psC]) v
theorem PM.set1 (h : PM H p tv L s) {n : Nat} (hn : n < L.length) : PM (setH H ⟨p, 1, none⟩ (iv n)) p tv L { s with pos := n } :=
  h.re (by have := h.self.set 1 (iv n); exact this) (Fr.set (by simp)) hn
theorem PM.set2 (h : PM H p tv L s) (n : Int) : PM (setH H ⟨p, 2, none⟩ (iv n)) p tv L { s with deep := n } :=
  h.re (by have := h.self.set 2 (iv n); exact this) (Fr.set (by simp)) h.pos
/-- What a function of the parser leaves behind. -/
def PP (H : Heap) (p : Nat) (tv : Value) (L : List Tok) (s : PS) (H' : Heap) : Prop := Fr [p] H H' ∧ PM H' p tv L s
theorem PP.over {H1 H2 : Heap} (h : PP H p tv L s H1) (hl : p < H.size) {F : List Nat} (hf : Fr F H1 H2) (hF : ∀ b ∈ F, H.size ≤ b) : PP H p tv L s H2 :=
  ⟨Fr.more h.1 hf (fun b hb => .inr (hF b hb)), h.2.over hf (fun b hb => by have := hF b hb; omega)⟩
theorem PP.trans {H1 H2 : Heap} (h : PP H p tv L s H1) (h' : PP H1 p tv L s' H2) : PP H p tv L s' H2 := ⟨h.1.trans h'.1, h'.2⟩
theorem PP.grow {H1 H2 : Heap} (h : PP H p tv L s H1) (h' : Fr [] H1 H2) : PP H p tv L s H2 := ⟨h.1.trans h'.nil, h.2.grow h'⟩

theorem pOk_spec (h : PM H p tv L s) : CallF Tryz.prog 40 [hp p] H (fun r H' => H = H' ∧ r = .bool (okM s)) NoP := by
  have c3 := h.c3
  refine callF_of Tryz.func40 rfl Tryz.ntmps40 Tryz.results40 (by decide) rfl ?_
  simp (disch := omega) only [go_sem, ↓cw_block, dsB_of, c3]
  exact fin ⟨rfl, rfl⟩
theorem pNow_spec (h : PM H p tv L s) : CallF Tryz.prog 41 [hp p] H (fun r H' => Fr [] H H' ∧ r = .agg (tokC (tkM L s)).toArray) NoP := by
  have h1 := h.grow (H' := H.push (.cells #[iv 0, sv [], iv 0] 101)) Fr.push
  have c0 := h1.c0
  have c1 := h1.c1
  have hl := h.lt
  have hps := h.pos
  obtain ⟨b, o, cap, rfl, hb, hr, hr2⟩ := h1.toks.row tokL (by omega) h1.tk
  refine callF_of Tryz.func41 rfl Tryz.ntmps41 Tryz.results41 (by decide) rfl ?_
  simp (disch := omega) only [go_sem, ↓cw_block, dsB_of, newPtr]
  refine draw0 (lk [(0, true), (1, true), (2, true), (3, true), (4, true), (5, true), (6, true), (7, true), (8, true), (9, true)] (.act 10 .fin .non)) T.mixed ?_
  simp (disch := omega) only [go_sem, ↓cw_block, dsB_of, c0, c1, hr, hps, newPtr, tokC]
  exact fin ⟨Fr.push, rfl⟩
theorem pBad_spec (h : PM H p tv L s) {e : Int} : CallF Tryz.prog 78 [hp p, iv e] H (fun r H' => PP H p tv L (badM L e s) H') NoP := by
  refine callF_of Tryz.func78 rfl Tryz.ntmps78 Tryz.results78 (by decide) rfl ?_
  simp (disch := omega) only [go_sem, ↓cw_block, dsB_of]
  refine call_to (pOk_spec h) ?_
  rintro _ _ ⟨rfl, rfl⟩
  unfold okM badM
  by_cases h0 : s.flt.err = 0
  · simp (disch := omega) only [go_sem, ↓cw_block, dsB_of]
    refine call_to (pNow_spec h) ?_
    rintro _ H1 ⟨f1, rfl⟩
    have h1 := h.grow f1
    obtain ⟨H2, e1, e2, e3⟩ := store_at (P := Tryz.prog) (ty := 25) (pre := [tv, iv s.pos, iv s.deep]) (old := [iv s.flt.err, iv s.flt.pos]) (rest := []) (new := [iv e, iv (tkM L s).pos]) h1.self rfl T.size25 (by simp [oneC])
    simp only [List.length_cons, List.length_nil, Nat.reduceAdd] at e1
    simp (disch := omega) only [go_sem, ↓cw_block, dsB_of, tokC, e1]
    rw [if_pos h0]
    exact fin ⟨f1.nil.trans e3, h1.re (s' := { s with flt := ⟨e, (tkM L s).pos⟩ }) e2 e3 h.pos⟩
  · simp (disch := omega) only [go_sem, ↓cw_block, dsB_of]
    rw [if_neg h0]
    exact fin ⟨Fr.refl _ _, h⟩
theorem pSees_spec (h : PM H p tv L s) {w : Str} : CallF Tryz.prog 53 [hp p, sv w] H (fun r H' => Fr [] H H' ∧ r = .bool (seesM L w s)) NoP := by
  refine callF_of Tryz.func53 rfl Tryz.ntmps53 Tryz.results53 (by decide) rfl ?_
  simp (disch := omega) only [go_sem, ↓cw_block, dsB_of]
  refine call_to (pNow_spec h) ?_
  rintro _ H1 ⟨f1, rfl⟩
  have h1 := h.grow f1
  simp (disch := omega) only [go_sem, ↓cw_block, dsB_of, tokC, newPtr]
  have f2 : Fr [] H1 (H1.push (.cells (tokC (tkM L s)).toArray 101)) := Fr.push
  have hb : Blk (H1.push (.cells (tokC (tkM L s)).toArray 101)) H1.size 101 (tokC (tkM L s)) := Blk.new rfl
  have h2 := h1.grow f2
  refine call_to (pOk_spec h2) ?_
  rintro _ _ ⟨rfl, rfl⟩
  have k0 : cellH (H1.push (.cells #[iv (tkM L s).kind, sv (tkM L s).s, iv (tkM L s).pos] 101)) ⟨H1.size, 0, none⟩ = some (iv (tkM L s).kind) := hb.cell 0
  have k1 : cellH (H1.push (.cells #[iv (tkM L s).kind, sv (tkM L s).s, iv (tkM L s).pos] 101)) ⟨H1.size, 1, none⟩ = some (sv (tkM L s).s) := hb.cell 1
  cases q1 : okM s
  · simp (disch := omega) only [go_sem, ↓cw_block, dsB_of, k0, k1]
    exact fin ⟨f1.trans f2, by simp [seesM, q1]⟩
  by_cases q2 : (tkM L s).s = w
  · by_cases q3 : (tkM L s).kind = 2
    · simp (disch := omega) only [go_sem, ↓cw_block, dsB_of, k0, k1, q3]
      exact fin ⟨f1.trans f2, by simp [seesM, q1, q2, q3]⟩
    · by_cases q4 : (tkM L s).kind = 0
      · simp (disch := omega) only [go_sem, ↓cw_block, dsB_of, k0, k1]
        refine call_to r8Key_spec ?_
        rintro _ H3 ⟨f3, rfl⟩
        cases q5 : keyM w
        · simp (disch := omega) only [go_sem, ↓cw_block, dsB_of, k0, k1]
          exact fin ⟨(f1.trans f2).trans f3, by simp [seesM, q1, q2, q3, q4, q5]⟩
        · simp (disch := omega) only [go_sem, ↓cw_block, dsB_of, k0, k1]
          exact fin ⟨(f1.trans f2).trans f3, by simp [seesM, q1, q2, q3, q4, q5]⟩
      · simp (disch := omega) only [go_sem, ↓cw_block, dsB_of, k0, k1]
        exact fin ⟨f1.trans f2, by simp [seesM, q1, q2, q3, q4]⟩
  · simp (disch := omega) only [go_sem, ↓cw_block, dsB_of, k0, k1]
    exact fin ⟨f1.trans f2, by simp [seesM, q1, q2]⟩
theorem sees_up (hW : TW L) (h : PM H p tv L s) {w : Str} (hs : seesM L w s = true) : s.pos + 1 < L.length := by
  refine hW.fin s.pos _ h.tk ?_
  unfold seesM at hs
  intro e
  simp [e] at hs
theorem pUp (h : PM H p tv L s) (hn : s.pos + 1 < L.length) : PP H p tv L (upM s) (setH H ⟨p, 1, none⟩ (iv ((s.pos + 1 : Nat) : Int))) := ⟨Fr.set (by simp), h.set1 hn⟩
theorem pTake_spec (hW : TW L) (h : PM H p tv L s) {w : Str} : CallF Tryz.prog 56 [hp p, sv w] H (fun r H' => PP H p tv L (takeM L w s).2 H' ∧ r = .bool (takeM L w s).1) NoP := by
  refine callF_of Tryz.func56 rfl Tryz.ntmps56 Tryz.results56 (by decide) rfl ?_
  simp (disch := omega) only [go_sem, ↓cw_block, dsB_of]
  refine call_to (pSees_spec h) ?_
  rintro _ H1 ⟨f1, rfl⟩
  have h1 := h.grow f1
  have c1 := h1.c1
  have w1 := h1.w1
  have hln := hW.len
  have hps := h.pos
  have e1 : (s.pos : Int) + 1 = ((s.pos + 1 : Nat) : Int) := by omega
  unfold takeM
  cases q : seesM L w s
  · simp (disch := omega) only [go_sem, ↓cw_block, dsB_of]
    exact fin ⟨⟨f1.nil, h1⟩, rfl⟩
  · simp (disch := omega) only [go_sem, ↓cw_block, dsB_of, c1, w1, e1]
    exact fin ⟨PP.trans ⟨f1.nil, h1⟩ (pUp h1 (sees_up hW h q)), rfl⟩
theorem pMust_spec (hW : TW L) (h : PM H p tv L s) {w : Str} : CallF Tryz.prog 58 [hp p, sv w] H (fun r H' => PP H p tv L (mustM L w s) H') NoP := by
  refine callF_of Tryz.func58 rfl Tryz.ntmps58 Tryz.results58 (by decide) rfl ?_
  simp (disch := omega) only [go_sem, ↓cw_block, dsB_of]
  refine call_to (pTake_spec hW h) ?_
  unfold mustM
  rintro _ H1 ⟨h1, rfl⟩
  cases q : seesM L w s
  · have e : takeM L w s = (false, s) := by simp [takeM, q]
    rw [e] at h1
    simp (disch := omega) only [go_sem, ↓cw_block, dsB_of, e]
    refine call_to (pBad_spec h1.2) ?_
    rintro _ H2 h2
    simp (disch := omega) only [go_sem, ↓cw_block, dsB_of]
    exact fin (h1.trans h2)
  · have e : takeM L w s = (true, upM s) := by simp [takeM, q]
    rw [e] at h1
    simp (disch := omega) only [go_sem, ↓cw_block, dsB_of, e]
    exact fin h1
theorem pFlag_spec (hW : TW L) (h : PM H p tv L s) {w : Str} : CallF Tryz.prog 60 [hp p, sv w] H (fun r H' => PP H p tv L (flagM L w s).2 H' ∧ r = iv (flagM L w s).1) NoP := by
  refine callF_of Tryz.func60 rfl Tryz.ntmps60 Tryz.results60 (by decide) rfl ?_
  simp (disch := omega) only [go_sem, ↓cw_block, dsB_of]
  refine call_to (pTake_spec hW h) ?_
  unfold flagM
  rintro _ H1 ⟨h1, rfl⟩
  cases q : seesM L w s
  · have e : takeM L w s = (false, s) := by simp [takeM, q]
    rw [e] at h1
    simp (disch := omega) only [go_sem, ↓cw_block, dsB_of, e]
    exact fin ⟨h1, rfl⟩
  · have e : takeM L w s = (true, upM s) := by simp [takeM, q]
    rw [e] at h1
    simp (disch := omega) only [go_sem, ↓cw_block, dsB_of, e]
    exact fin ⟨h1, rfl⟩
theorem pIn_spec (h : PM H p tv L s) (hd : -1000000000 ≤ s.deep ∧ s.deep ≤ 1000000000) : CallF Tryz.prog 75 [hp p] H (fun r H' => PP H p tv L (inM L s) H') NoP := by
  have c2 := h.c2
  have w2 := h.w2
  have h1 := h.set2 (s.deep + 1)
  have f1 : Fr [p] H (setH H ⟨p, 2, none⟩ (iv (s.deep + 1))) := Fr.set (by simp)
  have c2' := h1.c2
  simp only at c2'
  refine callF_of Tryz.func75 rfl Tryz.ntmps75 Tryz.results75 (by decide) rfl ?_
  unfold inM
  by_cases q : 200 < s.deep + 1
  · simp (disch := omega) only [go_sem, ↓cw_block, dsB_of, c2, w2, c2']
    refine call_to (pBad_spec h1) ?_
    rintro _ H2 h2
    simp (disch := omega) only [go_sem, ↓cw_block, dsB_of]
    rw [if_pos q]
    exact fin (PP.trans ⟨f1, h1⟩ h2)
  · simp (disch := omega) only [go_sem, ↓cw_block, dsB_of, c2, w2, c2']
    rw [if_neg q]
    exact fin ⟨f1, h1⟩
theorem pName_spec (hW : TW L) (h : PM H p tv L s) : CallF Tryz.prog 57 [hp p] H (fun r H' => PP H p tv L (pnameM L s).2 H' ∧ r = sv (pnameM L s).1) NoP := by
  refine callF_of Tryz.func57 rfl Tryz.ntmps57 Tryz.results57 (by decide) rfl ?_
  simp (disch := omega) only [go_sem, ↓cw_block, dsB_of]
  refine call_to (pNow_spec h) ?_
  rintro _ H1 ⟨f1, rfl⟩
  have h1 := h.grow f1
  simp (disch := omega) only [go_sem, ↓cw_block, dsB_of, tokC, newPtr]
  have f2 : Fr [] H1 (H1.push (.cells (tokC (tkM L s)).toArray 101)) := Fr.push
  have hb : Blk (H1.push (.cells (tokC (tkM L s)).toArray 101)) H1.size 101 (tokC (tkM L s)) := Blk.new rfl
  have h2 := h1.grow f2
  have hln := hW.len
  have hps := h.pos
  have hpl := h1.lt
  have e1 : (s.pos : Int) + 1 = ((s.pos + 1 : Nat) : Int) := by omega
  by_cases q1 : (tkM L s).kind = 0
  · simp (disch := omega) only [go_sem, ↓cw_block, dsB_of, q1]
    refine call_to r8Name_spec ?_
    rintro _ H3 ⟨f3, rfl⟩
    have f13 : Fr [] H H3 := (f1.trans f2).trans f3
    have h3 := h.grow f13
    have hb3 := f3.blk hb (by simp)
    cases q2 : nameM (tkM L s).s
    · simp (disch := omega) only [go_sem, ↓cw_block, dsB_of]
      refine call_to (pBad_spec h3) ?_
      rintro _ H4 h4
      simp (disch := omega) only [go_sem, ↓cw_block, dsB_of]
      exact fin ⟨by unfold pnameM isName; simp only [q2, Bool.and_false, Bool.false_and, Bool.false_eq_true, if_false]; exact PP.trans ⟨f13.nil, h3⟩ h4, by unfold pnameM isName; simp [q2]⟩
    · simp (disch := omega) only [go_sem, ↓cw_block, dsB_of]
      refine call_to (pOk_spec h3) ?_
      rintro _ _ ⟨rfl, rfl⟩
      cases q3 : okM s
      · simp (disch := omega) only [go_sem, ↓cw_block, dsB_of]
        refine call_to (pBad_spec h3) ?_
        rintro _ H4 h4
        simp (disch := omega) only [go_sem, ↓cw_block, dsB_of]
        exact fin ⟨by unfold pnameM isName; simp only [q3, Bool.and_false, Bool.false_and, Bool.false_eq_true, if_false]; exact PP.trans ⟨f13.nil, h3⟩ h4, by unfold pnameM isName; simp [q3]⟩
      · have c1 := h3.c1
        have w1 := h3.w1
        have hn : s.pos + 1 < L.length := hW.fin s.pos _ h.tk (by rw [q1]; decide)
        have h4 := pUp h3 hn
        have hb4 := h4.1.blk hb3 (by simp; omega)
        have k1 := hb4.cell 1
        simp only [tokC, List.getElem?_cons_succ, List.getElem?_cons_zero] at k1
        simp (disch := omega) only [go_sem, ↓cw_block, dsB_of, c1, w1, e1, k1]
        have q : isName L s = true := by unfold isName; simp [q1, q2, q3]
        exact fin ⟨by unfold pnameM; rw [if_pos q]; exact PP.trans ⟨f13.nil, h3⟩ h4, by unfold pnameM; rw [if_pos q]⟩
  · simp (disch := omega) only [go_sem, ↓cw_block, dsB_of]
    refine call_to (pBad_spec h2) ?_
    rintro _ H4 h4
    simp (disch := omega) only [go_sem, ↓cw_block, dsB_of]
    exact fin ⟨by unfold pnameM isName; simp only [q1, decide_false, Bool.false_and, Bool.false_eq_true, if_false]; exact PP.trans ⟨(f1.trans f2).nil, h2⟩ h4, by unfold pnameM isName; simp [q1]⟩
end
end Go.Proofs.YtpkfgoemhcgpdaaGreatDoor

namespace Go.HL
def hlist (b : Nat) : Nat → List Value → List (Addr × Value)
  | _, [] => []
  | i, v :: vs => (⟨b, i, none⟩, v) :: hlist b (i + 1) vs
theorem look_hlist {b : Nat} : ∀ (vs : List Value) (k j : Nat), k ≤ j → lookA (hlist b k vs) ⟨b, j, none⟩ = vs[j - k]?
  | [], k, j, _ => by simp [hlist, lookA]
  | v :: vs, k, j, h => by
    unfold hlist lookA
    by_cases e : k = j
    · subst e; simp
    · rw [if_neg (by simp; omega), look_hlist vs (k + 1) j (by omega)]
      have : j - k = (j - (k + 1)) + 1 := by omega
      rw [this]; simp
theorem look_other {b b' : Nat} (h : b' ≠ b) : ∀ (vs : List Value) (k j : Nat), lookA (hlist b k vs) ⟨b', j, none⟩ = none
  | [], k, j => by simp [hlist, lookA]
  | v :: vs, k, j => by
    unfold hlist lookA
    rw [if_neg (by simp; intro e; exact absurd e.symm h), look_other h vs (k + 1) j]
theorem look_low {b : Nat} : ∀ (vs : List Value) (k j : Nat) (b' : Nat) v, lookA (hlist b k vs) ⟨b', j, none⟩ = some v → b' = b ∧ k ≤ j
  | [], k, j, b', v, h => by simp [hlist, lookA] at h
  | u :: vs, k, j, b', v, h => by
    unfold hlist lookA at h
    split at h
    · rename_i e; simp at e; exact ⟨e.1.symm, by omega⟩
    · have := look_low vs (k + 1) j b' v h; exact ⟨this.1, by omega⟩
theorem look_spot {b : Nat} {a : Addr} {v : Value} : ∀ (vs : List Value) (k : Nat), lookA (hlist b k vs) a = some v → a.spot = none
  | [], k, h => by simp [hlist, lookA] at h
  | u :: vs, k, h => by
    unfold hlist lookA at h
    split at h
    · rename_i e; rw [← e]
    · exact look_spot vs (k + 1) h
theorem heldOK_blk {H : Heap} {b t : Nat} {vs : List Value} (hb : Blk H b t vs) : heldOK (hlist b 0 vs) H := by
  intro a v h
  have hs := look_spot vs 0 h
  obtain ⟨b', j, sp⟩ := a
  simp only at hs
  subst hs
  obtain ⟨rfl, _⟩ := look_low vs 0 j b' v h
  rw [look_hlist vs 0 j (by omega)] at h
  rw [hb.cell]; exact h
@[go_sem] theorem look_blk {b i : Nat} {vs : List Value} : lookA (hlist b 0 vs) ⟨b, i, none⟩ = vs[i]? := look_hlist vs 0 i (by omega)
@[go_sem] theorem held_fn {l : List (Addr × Value)} : (held l).cells = lookA l := (rfl)
theorem held_all {b : Nat} {vs : List Value} : cellsH (lookA (hlist b 0 vs)) ⟨b, 0, none⟩ 0 vs.length = some vs := by
  refine cellsH_at vs 0 0 ?_
  intro j hj
  rw [look_hlist vs 0 _ (by omega)]; simp [hj]
end Go.HL
namespace Go.Proofs.YtpkfgoemhcgpdaaGreatDoor
open Go.HL
set_option maxRecDepth 10000
set_option linter.unusedSimpArgs false
set_option linter.unusedVariables false

/-- A node of a tree. -/
structure Nd where
  kind : Int
  words : List Str
  nums : List Int
  kids : List Int
  pos : Int
  deriving DecidableEq
/-- A list of trees: the first, what stands below it, the others. -/
inductive Fo where
  | nil
  | cons (n : Nd) (kids rest : Fo)
  deriving DecidableEq
def Fo.snoc : Fo → Nd → Fo → Fo
  | .nil, n, k => .cons n k .nil
  | .cons m l r, n, k => .cons m l (r.snoc n k)
def Fo.len : Fo → Nat
  | .nil => 0
  | .cons _ _ r => r.len + 1
theorem Fo.len_snoc (f : Fo) (n : Nd) (k : Fo) : (f.snoc n k).len = f.len + 1 := by
  induction f with
  | nil => rfl
  | cons m l r _ ih => simp [Fo.snoc, Fo.len, ih]
/-- The words, numbers and kids of a node. -/
structure NR (H : Heap) (S : Nat → Prop) (wv nv kv : Value) (n : Nd) : Prop where
  w : Rd H S 1 wv (n.words.map sv)
  u : Rd H S 1 nv (n.nums.map iv)
  k : kv = .slice none 0 0 ∧ n.kids = []
def FL (H : Heap) (S : Nat → Prop) : List Value → Fo → Prop
  | cs, .nil => cs = []
  | cs, .cons n k r => ∃ wv nv kv lv rest, cs = iv n.kind :: wv :: nv :: kv :: iv n.pos :: lv :: rest ∧ NR H S wv nv kv n ∧ (∃ ds, Rd H S 6 lv ds ∧ FL H S ds k) ∧ FL H S rest r
/-- A tree in six cells. -/
def TR (H : Heap) (S : Nat → Prop) (cs : List Value) (n : Nd) (f : Fo) : Prop := ∃ wv nv kv lv, cs = [iv n.kind, wv, nv, kv, iv n.pos, lv] ∧ NR H S wv nv kv n ∧ ∃ ds, Rd H S 6 lv ds ∧ FL H S ds f
section
variable {H H' : Heap} {S S' : Nat → Prop} {wv nv kv lv : Value} {n : Nd} {cs : List Value} {f : Fo}
theorem NR.frame (h : NR H S wv nv kv n) (hk : Keeps S H H') : NR H' S wv nv kv n := ⟨h.w.frame hk, h.u.frame hk, h.k⟩
theorem NR.mono (h : NR H S wv nv kv n) (hs : ∀ b, S b → b < H.size → S' b) : NR H S' wv nv kv n := ⟨h.w.mono hs, h.u.mono hs, h.k⟩
theorem FL.frame (hk : Keeps S H H') : ∀ {cs : List Value} {f : Fo}, FL H S cs f → FL H' S cs f := by
  intro cs f
  induction f generalizing cs with
  | nil => exact id
  | cons n k r ih1 ih2 =>
    rintro ⟨wv, nv, kv, lv, rest, rfl, h1, ⟨ds, h2, h3⟩, h4⟩
    exact ⟨wv, nv, kv, lv, rest, rfl, h1.frame hk, ⟨ds, h2.frame hk, ih1 h3⟩, ih2 h4⟩
theorem FL.mono (hs : ∀ b, S b → b < H.size → S' b) : ∀ {cs : List Value} {f : Fo}, FL H S cs f → FL H S' cs f := by
  intro cs f
  induction f generalizing cs with
  | nil => exact id
  | cons n k r ih1 ih2 =>
    rintro ⟨wv, nv, kv, lv, rest, rfl, h1, ⟨ds, h2, h3⟩, h4⟩
    exact ⟨wv, nv, kv, lv, rest, rfl, h1.mono hs, ⟨ds, h2.mono hs, ih1 h3⟩, ih2 h4⟩
theorem FL.len : ∀ {cs : List Value} {f : Fo}, FL H S cs f → cs.length = f.len * 6 := by
  intro cs f
  induction f generalizing cs with
  | nil => rintro rfl; rfl
  | cons n k r ih1 ih2 =>
    rintro ⟨wv, nv, kv, lv, rest, rfl, h1, ⟨ds, h2, h3⟩, h4⟩
    simp [Fo.len, ih2 h4]; omega
theorem FL.snoc {k : Fo} {ds : List Value} (ht : TR H S ds n k) : ∀ {cs : List Value} {f : Fo}, FL H S cs f → FL H S (cs ++ ds) (f.snoc n k) := by
  obtain ⟨wv, nv, kv, lv, rfl, h1, es, h2, h3⟩ := ht
  intro cs f
  induction f generalizing cs with
  | nil => rintro rfl; exact ⟨wv, nv, kv, lv, [], rfl, h1, ⟨es, h2, h3⟩, rfl⟩
  | cons n' k' r ih1 ih2 =>
    rintro ⟨wv, nv, kv, lv, rest, rfl, g1, ⟨ds, g2, g3⟩, g4⟩
    exact ⟨wv, nv, kv, lv, _, rfl, g1, ⟨ds, g2, g3⟩, ih2 g4⟩
theorem TR.frame (hk : Keeps S H H') (h : TR H S cs n f) : TR H' S cs n f := by
  obtain ⟨wv, nv, kv, lv, rfl, h1, es, h2, h3⟩ := h
  exact ⟨wv, nv, kv, lv, rfl, h1.frame hk, es, h2.frame hk, h3.frame hk⟩
theorem TR.mono (hs : ∀ b, S b → b < H.size → S' b) (h : TR H S cs n f) : TR H S' cs n f := by
  obtain ⟨wv, nv, kv, lv, rfl, h1, es, h2, h3⟩ := h
  exact ⟨wv, nv, kv, lv, rfl, h1.mono hs, es, h2.mono hs, h3.mono hs⟩
/-- The six cells of a tree are each a cell. -/
theorem Rd.slice {z : Nat} {v : Value} {vs : List Value} (h : Rd H S z v vs) : ∃ a l c, v = .slice a l c := by
  obtain ⟨a, l, c, e, _⟩ := h; exact ⟨a, l, c, e⟩
end
section
variable {H H' : Heap} {p : Nat} {tv : Value} {L : List Tok} {s s' : PS}
theorem valM_step {l : Str} {i : Nat} {c : UInt8} (h : l[i]? = some c) : valM (l.take (i + 1)) = 10 * valM (l.take i) + ((c.toNat : Int) - 48) := by
  unfold valM; rw [List.take_add_one, h]; simp
theorem pNum_spec (hW : TW L) (h : PM H p tv L s) : CallF Tryz.prog 59 [hp p] H (fun r H' => PP H p tv L (pnumM L s).2 H' ∧ r = iv (pnumM L s).1) NoP := by
  refine callF_of Tryz.func59 rfl Tryz.ntmps59 Tryz.results59 (by decide) rfl ?_
  simp (disch := omega) only [go_sem, ↓cw_block, dsB_of]
  refine call_to (pNow_spec h) ?_
  rintro _ H1 ⟨f1, rfl⟩
  have h1 := h.grow f1
  simp (disch := omega) only [go_sem, ↓cw_block, dsB_of, tokC]
  have f2 : Fr [] H1 (H1.push (.cells (tokC (tkM L s)).toArray 101)) := Fr.push
  have hb : Blk (H1.push (.cells (tokC (tkM L s)).toArray 101)) H1.size 101 (tokC (tkM L s)) := Blk.new rfl
  have h2 := h1.grow f2
  have hln := hW.len
  have hps := h.pos
  have hpl := h1.lt
  have e1 : (s.pos : Int) + 1 = ((s.pos + 1 : Nat) : Int) := by omega
  by_cases q1 : (tkM L s).kind = 1
  · simp (disch := omega) only [go_sem, ↓cw_block, dsB_of, q1]
    refine call_to (pOk_spec h2) ?_
    rintro _ _ ⟨rfl, rfl⟩
    cases q3 : okM s
    · simp (disch := omega) only [go_sem, ↓cw_block, dsB_of]
      refine call_to (pBad_spec h2) ?_
      rintro _ H4 h4
      simp (disch := omega) only [go_sem, ↓cw_block, dsB_of]
      exact fin ⟨by unfold pnumM isNum; simp only [q3, Bool.and_false, Bool.false_and, Bool.false_eq_true, if_false]; exact PP.trans ⟨(f1.trans f2).nil, h2⟩ h4, by unfold pnumM isNum; simp [q3]⟩
    · have c1 := h2.c1
      have w1 := h2.w1
      have hn : s.pos + 1 < L.length := hW.fin s.pos _ h.tk (by rw [q1]; decide)
      have h4 := pUp h2 hn
      have hb4 := h4.1.blk hb (by simp; omega)
      have k1 := hb4.cell 1
      obtain ⟨hl6, hdig⟩ := hW.num s.pos _ h.tk q1
      have q : isNum L s = true := by unfold isNum; simp [q1, q3]
      have hres : pnumM L s = (valM (tkM L s).s, upM s) := by unfold pnumM; rw [if_pos q]
      rw [hres]
      generalize hH4 : setH (H1.push (.cells (tokC (tkM L s)).toArray 101)) ⟨p, 1, none⟩ (iv ((s.pos + 1 : Nat) : Int)) = H4 at h4 hb4 k1
      generalize hts : (tkM L s).s = ts at *
      simp only [tokC, List.getElem?_cons_succ, List.getElem?_cons_zero, hts] at k1 hH4 c1 w1
      simp (disch := omega) only [go_sem, ↓cw_block, dsB_of, c1, w1, e1, hH4]
      refine loop_by (fun k ρ H5 => ∃ (i : Nat) (n : Int), k = ts.length - i ∧ i ≤ ts.length ∧ n = valM (ts.take i) ∧ 0 ≤ n ∧ n + 1 ≤ 10 ^ i ∧ H5 = H4 ∧ (ρ.get 3 = hp H1.size ∧ ρ.get 4 = iv n ∧ ρ.get 5 = iv i ∧ ρ.ds = [])) (k := ts.length) ?_ ?_
      · exact ⟨0, 0, rfl, by omega, rfl, by omega, by simp, rfl, by simp (disch := omega) only [go_sem, ↓cw_block, dsB_of]⟩
      · rintro k ρ _ ⟨i, n, rfl, hi, hn2, hn3, hn4, rfl, ⟨r3, r4, r5, rd⟩⟩
        have hi1 : (i : Int) + 1 = ((i + 1 : Nat) : Int) := by omega
        by_cases hin : i < ts.length
        · have hb8 := bt8_lt hin
          have hd : digitM (bt8 ts i) = true := List.all_eq_true.1 hdig _ (List.mem_of_getElem? hb8)
          unfold digitM at hd
          simp only [decide_eq_true_eq] at hd
          have hp6 : (10 : Int) ^ i ≤ 100000 := by
            have hi5 : i ≤ 5 := by omega
            have : ∀ i : Nat, i ≤ 5 → (10 : Int) ^ i ≤ 100000 := by decide
            exact this i hi5
          have hwr : IntKind.u8.wrap ((bt8 ts i).toNat - 48 : Int) = (bt8 ts i).toNat - 48 := by
            simp [IntKind.wrap, IntKind.bits, IntKind.signed]; omega
          simp (disch := omega) only [go_sem, ↓cw_block, dsB_of, r3, r4, r5, rd, k1, hwr]
          refine fin ⟨ts.length - (i + 1), by omega, i + 1, 10 * n + (((bt8 ts i).toNat : Int) - 48), rfl, by omega, by rw [valM_step hb8, hn2], by omega, ?_, rfl, by simp (disch := omega) only [go_sem, ↓cw_block, dsB_of, r3, r4, r5, rd, hi1]⟩
          rw [Int.pow_succ]
          generalize (10 : Int) ^ i = z at *
          omega
        · simp (disch := omega) only [go_sem, ↓cw_block, dsB_of, r3, r4, r5, rd, k1]
          have : ts.take i = ts := List.take_of_length_le (by omega)
          exact fin ⟨PP.trans ⟨(f1.trans f2).nil, h2⟩ h4, by rw [hn2, this]⟩
  · simp (disch := omega) only [go_sem, ↓cw_block, dsB_of]
    refine call_to (pBad_spec h2) ?_
    rintro _ H4 h4
    simp (disch := omega) only [go_sem, ↓cw_block, dsB_of]
    exact fin ⟨by unfold pnumM isNum; simp only [q1, decide_false, Bool.false_and, Bool.false_eq_true, if_false]; exact PP.trans ⟨(f1.trans f2).nil, h2⟩ h4, by unfold pnumM isNum; simp [q1]⟩
def beginM (L : List Tok) (k : Int) (s : PS) : Nd := ⟨k, [], [], [], (tkM L s).pos⟩
abbrev noS : Value := .slice none 0 0
def nd0 (n : Nd) : List Value := [iv n.kind, noS, noS, noS, iv n.pos, noS]
end
end Go.Proofs.YtpkfgoemhcgpdaaGreatDoor

namespace Go.HL
section
variable {P : Program} {H : Heap} {S : Nat → Prop}
/-- One cell of what is read. -/
theorem Rd.at1 {α : Type} {f : α → Value} {v : Value} {l : List α} (h : Rd H S 1 v (l.map f)) {i : Nat} {x : α} (hx : l[i]? = some x) :
    ∃ b o cap, v = .slice (some ⟨b, o, none⟩) l.length cap ∧ S b ∧ cellH H ⟨b, o + i, none⟩ = some (f x) := by
  obtain ⟨a, len, cap, rfl, hl, hc⟩ := h
  rw [List.length_map, Nat.mul_one] at hl
  subst hl
  obtain ⟨b, o, rfl, hs, h3⟩ := hc i (f x) (by simp [hx])
  exact ⟨b, o, cap, rfl, hs, h3⟩
theorem Rd.len1 {α : Type} {f : α → Value} {v : Value} {l : List α} (h : Rd H S 1 v (l.map f)) : ∃ a cap, v = .slice a l.length cap := by
  obtain ⟨a, len, cap, rfl, hl, hc⟩ := h
  rw [List.length_map, Nat.mul_one] at hl
  subst hl
  exact ⟨a, cap, rfl⟩
end
end Go.HL
namespace Go.Proofs.YtpkfgoemhcgpdaaGreatDoor
open Go.HL
set_option maxRecDepth 10000
set_option linter.unusedSimpArgs false
set_option linter.unusedVariables false

/-- A node with the slices that hold its words, numbers and kids. -/
structure AN where
  n : Nd
  wv : Value
  nv : Value
  kv : Value
def anC (a : AN) : List Value := [iv a.n.kind, a.wv, a.nv, a.kv, iv a.n.pos]
theorem anL (a : AN) : (anC a).length = 5 := rfl
structure AR (H : Heap) (S : Nat → Prop) (a : AN) : Prop where
  w : Rd H S 1 a.wv (a.n.words.map sv)
  u : Rd H S 1 a.nv (a.n.nums.map iv)
  k : Rd H S 1 a.kv (a.n.kids.map iv)
  kc : ∀ x m c, a.kv = .slice x m c → m ≤ c
/-- A list of nodes that is read. -/
def NL (H : Heap) (S : Nat → Prop) (v : Value) (l : List Nd) : Prop := ∃ ps : List AN, l = ps.map AN.n ∧ Rd H S 5 v (ps.flatMap anC) ∧ ∀ a ∈ ps, AR H S a
section
variable {H H' : Heap} {S S' : Nat → Prop} {v : Value} {l : List Nd} {a : AN}
theorem AR.frame (h : AR H S a) (hk : Keeps S H H') : AR H' S a := ⟨h.w.frame hk, h.u.frame hk, h.k.frame hk, h.kc⟩
theorem AR.mono (h : AR H S a) (hs : ∀ b, S b → b < H.size → S' b) : AR H S' a := ⟨h.w.mono hs, h.u.mono hs, h.k.mono hs, h.kc⟩
theorem NL.frame (h : NL H S v l) (hk : Keeps S H H') : NL H' S v l := by
  obtain ⟨ps, h1, h2, h3⟩ := h
  exact ⟨ps, h1, h2.frame hk, fun a ha => (h3 a ha).frame hk⟩
theorem NL.mono (h : NL H S v l) (hs : ∀ b, S b → b < H.size → S' b) : NL H S' v l := by
  obtain ⟨ps, h1, h2, h3⟩ := h
  exact ⟨ps, h1, h2.mono hs, fun a ha => (h3 a ha).mono hs⟩
theorem NL.grow (h : NL H S v l) (hf : Fr [] H H') : NL H' S v l := h.frame (Keeps.of_fr hf (by simp))
theorem NL.nil : NL H S (.slice none 0 0) [] := ⟨[], rfl, Rd.nil, by simp⟩
theorem NL.len (h : NL H S v l) : ∃ a cap, v = .slice a l.length cap := by
  obtain ⟨ps, rfl, h2, h3⟩ := h
  obtain ⟨a, cap, e⟩ := h2.len anL (by decide)
  exact ⟨a, cap, by rw [e, List.length_map]⟩
theorem NL.row (h : NL H S v l) {i : Nat} {n : Nd} (hi : l[i]? = some n) :
    ∃ b o cap a, v = .slice (some ⟨b, o, none⟩) l.length cap ∧ a.n = n ∧ AR H S a ∧ cellsH (cellH H) ⟨b, o + i * 5, none⟩ 0 5 = some [iv n.kind, a.wv, a.nv, a.kv, iv n.pos] ∧
      cellH H ⟨b, o + i * 5, none⟩ = some (iv n.kind) ∧ cellH H ⟨b, o + i * 5 + 1, none⟩ = some a.wv ∧ cellH H ⟨b, o + i * 5 + 2, none⟩ = some a.nv ∧ cellH H ⟨b, o + i * 5 + 3, none⟩ = some a.kv ∧ cellH H ⟨b, o + i * 5 + 4, none⟩ = some (iv n.pos) := by
  obtain ⟨ps, rfl, h2, h3⟩ := h
  rw [List.getElem?_map, Option.map_eq_some_iff] at hi
  obtain ⟨a, ha, rfl⟩ := hi
  obtain ⟨b, o, cap, e, _, hc, hj⟩ := h2.row anL (by decide) ha
  exact ⟨b, o, cap, a, by rw [e, List.length_map], rfl, h3 a (List.mem_of_getElem? ha), hc, hj 0 _ rfl, hj 1 _ rfl, hj 2 _ rfl, hj 3 _ rfl, hj 4 _ rfl⟩
theorem AR.forms (h : AR H S a) : ∃ x1 c1 x2 c2 x3 c3, a.wv = .slice x1 a.n.words.length c1 ∧ a.nv = .slice x2 a.n.nums.length c2 ∧ a.kv = .slice x3 a.n.kids.length c3 := by
  obtain ⟨x1, c1, e1⟩ := h.w.len1
  obtain ⟨x2, c2, e2⟩ := h.u.len1
  obtain ⟨x3, c3, e3⟩ := h.k.len1
  exact ⟨x1, c1, x2, c2, x3, c3, e1, e2, e3⟩
end
end Go.Proofs.YtpkfgoemhcgpdaaGreatDoor

namespace Go.Proofs.YtpkfgoemhcgpdaaGreatDoor
open Go.HL
set_option maxRecDepth 10000
set_option linter.unusedSimpArgs false
set_option linter.unusedVariables false

/-- Does it hold of all numbers below one? -/
def allR (n : Nat) (g : Nat → Bool) : Bool := (List.range n).all g
theorem allR_true {n : Nat} {g : Nat → Bool} (h : ∀ j, j < n → g j = true) : allR n g = true := by
  unfold allR; rw [List.all_eq_true]; intro j hj; exact h j (List.mem_range.1 hj)
theorem allR_false {n j : Nat} {g : Nat → Bool} (hj : j < n) (h : g j = false) : allR n g = false := by
  unfold allR; rw [List.all_eq_false]; exact ⟨j, List.mem_range.2 hj, by simp [h]⟩
theorem allR_iff {n : Nat} {g : Nat → Bool} : allR n g = true ↔ ∀ j, j < n → g j = true := by
  unfold allR; rw [List.all_eq_true]; simp
abbrev anV (a : AN) : Value := .agg #[iv a.n.kind, a.wv, a.nv, a.kv, iv a.n.pos]
def nd0' : Nd := ⟨0, [], [], [], 0⟩
/-- The kind of the node with a number. -/
def knd (l : List Nd) (k : Int) : Int := (l.getD k.toNat nd0').kind
def kidA (n : Nd) (i : Nat) : Int := n.kids.getD i 0
def KOk (l : List Nd) (n : Nd) : Prop := ∀ (i : Nat) k, n.kids[i]? = some k → 0 ≤ k ∧ k < l.length
def inB (k a b : Int) : Bool := decide (a ≤ k) && decide (k ≤ b)
def exprsM (l : List Nd) (n : Nd) (first least most : Nat) : Bool :=
  allR n.kids.length (fun i => if i < first then inB (knd l (kidA n i)) 17 22 else decide (knd l (kidA n i) = 16)) && (decide (first + least ≤ n.kids.length) && decide (n.kids.length ≤ first + most))
def allM (l : List Nd) (n : Nd) (from' : Nat) (a b : Int) : Bool := allR n.kids.length (fun i => decide (i < from') || inB (knd l (kidA n i)) a b)
def numsM (n : Nd) (count : Nat) (most : Int) : Bool := allR n.nums.length (fun i => decide (0 ≤ n.nums.getD i 0) && decide (n.nums.getD i 0 ≤ most)) && decide (n.nums.length = count)
def wordsM (n : Nd) (count : Nat) : Bool := allR n.words.length (fun i => nameM (n.words.getD i [])) && decide (n.words.length = count)
theorem getD_some {α : Type} {l : List α} {i : Nat} {d : α} (h : i < l.length) : l[i]? = some (l.getD i d) := by
  rw [List.getD_eq_getElem?_getD, List.getElem?_eq_getElem h]; rfl
section
variable {H : Heap} {S : Nat → Prop} {v : Value} {l : List Nd} {a : AN}
theorem AR.open (h : AR H S a) : ∃ n x1 c1 x2 c2 x3 c3, a = ⟨n, .slice x1 n.words.length c1, .slice x2 n.nums.length c2, .slice x3 n.kids.length c3⟩ := by
  obtain ⟨n, wv, nv, kv⟩ := a
  obtain ⟨x1, c1, x2, c2, x3, c3, e1, e2, e3⟩ := h.forms
  simp only at e1 e2 e3
  subst e1 e2 e3
  exact ⟨n, x1, c1, x2, c2, x3, c3, rfl⟩
end
end Go.Proofs.YtpkfgoemhcgpdaaGreatDoor

