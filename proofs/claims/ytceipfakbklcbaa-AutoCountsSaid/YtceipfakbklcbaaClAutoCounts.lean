/- Proved: for every input the law AutoCounts returns true, and its arguments read as they did. No condition. -/
import Derived.Test.YtceipfakbklcbaaMXE
import Derived.Test.YtceipfakbklcbaaMX3

/- The law AutoCounts: its texts. -/
namespace Go.Proofs.Ytceipfakbklcbaa
open Go.HL
set_option maxRecDepth 100000
set_option linter.unusedSimpArgs false
set_option linter.unusedVariables false

def repS (b x : Str) : Nat → Str
  | 0 => b
  | i + 1 => repS b x i ++ x
theorem repS_len {b x : Str} : ∀ i, (repS b x i).length = b.length + i * x.length
  | 0 => by simp [repS]
  | i + 1 => by rw [repS, List.length_append, repS_len i, Nat.add_mul]; omega
def ctA (a : Nat) : Str := repS [112, 114, 111, 99, 32, 112, 32, 123, 32] [115, 107, 105, 112, 59, 32] a
def ctB (a b : Nat) : Str := repS (ctA a) [105, 102, 32, 49, 32, 123, 32, 115, 107, 105, 112, 59, 32, 125, 32] b
def ctC (a b c : Nat) : Str := repS (ctB a b) [119, 104, 105, 108, 101, 32, 49, 32, 123, 32, 115, 107, 105, 112, 59, 32, 125, 32] c
def ctM (a b c : Nat) : Bool := match parseM 400 (ctC a b c ++ [125]) with
  | some r => decide (r.2 = ⟨0, 0⟩) && (decide (typM r.1 = ⟨0, 0⟩) && (szB r.1 && decide (((modM r.1).procs.map fun p => (p.rest.length, p.edges.length)) = [(2 + (a + b + c - 1) + b + c, max (a + 3 * b + 3 * c) 1)])))
  | none => false
theorem ct_open {a b c : Nat} (h : ctM a b c = true) : ∃ l, parseM 400 (ctC a b c ++ [125]) = some (l, ⟨0, 0⟩) ∧ typM l = ⟨0, 0⟩ ∧ Sz l ∧ ∃ p, (modM l).procs = [p] ∧ p.rest.length = 2 + (a + b + c - 1) + b + c ∧ p.edges.length = max (a + 3 * b + 3 * c) 1 := by
  unfold ctM at h
  split at h
  · rename_i r hr
    obtain ⟨l, f⟩ := r
    simp only [Bool.and_eq_true, decide_eq_true_eq] at h
    obtain ⟨rfl, h2, h3, h4⟩ := h
    refine ⟨l, hr, h2, sz_of h3, ?_⟩
    cases hq : (modM l).procs with
    | nil => rw [hq] at h4; simp at h4
    | cons p r =>
      rw [hq] at h4
      simp only [List.map_cons, List.cons.injEq, Prod.mk.injEq, List.map_eq_nil_iff] at h4
      obtain ⟨⟨h5, h6⟩, rfl⟩ := h4
      exact ⟨p, rfl, h5, h6⟩
  · simp at h
end Go.Proofs.Ytceipfakbklcbaa


/- The law AutoCounts: texts of 0 skips, worked out. -/
namespace Go.Proofs.Ytceipfakbklcbaa
open Go.HL
set_option maxRecDepth 100000

theorem ct000 : ctM 0 0 0 = true := by decide +kernel
theorem ct001 : ctM 0 0 1 = true := by decide +kernel
theorem ct002 : ctM 0 0 2 = true := by decide +kernel
theorem ct003 : ctM 0 0 3 = true := by decide +kernel
theorem ct004 : ctM 0 0 4 = true := by decide +kernel
theorem ct005 : ctM 0 0 5 = true := by decide +kernel
theorem ct010 : ctM 0 1 0 = true := by decide +kernel
theorem ct011 : ctM 0 1 1 = true := by decide +kernel
theorem ct012 : ctM 0 1 2 = true := by decide +kernel
theorem ct013 : ctM 0 1 3 = true := by decide +kernel
theorem ct014 : ctM 0 1 4 = true := by decide +kernel
theorem ct015 : ctM 0 1 5 = true := by decide +kernel
theorem ct020 : ctM 0 2 0 = true := by decide +kernel
theorem ct021 : ctM 0 2 1 = true := by decide +kernel
theorem ct022 : ctM 0 2 2 = true := by decide +kernel
theorem ct023 : ctM 0 2 3 = true := by decide +kernel
theorem ct024 : ctM 0 2 4 = true := by decide +kernel
theorem ct025 : ctM 0 2 5 = true := by decide +kernel
theorem ct030 : ctM 0 3 0 = true := by decide +kernel
theorem ct031 : ctM 0 3 1 = true := by decide +kernel
theorem ct032 : ctM 0 3 2 = true := by decide +kernel
theorem ct033 : ctM 0 3 3 = true := by decide +kernel
theorem ct034 : ctM 0 3 4 = true := by decide +kernel
theorem ct035 : ctM 0 3 5 = true := by decide +kernel
theorem ct040 : ctM 0 4 0 = true := by decide +kernel
theorem ct041 : ctM 0 4 1 = true := by decide +kernel
theorem ct042 : ctM 0 4 2 = true := by decide +kernel
theorem ct043 : ctM 0 4 3 = true := by decide +kernel
theorem ct044 : ctM 0 4 4 = true := by decide +kernel
theorem ct045 : ctM 0 4 5 = true := by decide +kernel
theorem ct050 : ctM 0 5 0 = true := by decide +kernel
theorem ct051 : ctM 0 5 1 = true := by decide +kernel
theorem ct052 : ctM 0 5 2 = true := by decide +kernel
theorem ct053 : ctM 0 5 3 = true := by decide +kernel
theorem ct054 : ctM 0 5 4 = true := by decide +kernel
theorem ct055 : ctM 0 5 5 = true := by decide +kernel
theorem ctX0 : ∀ b c, b < 6 → c < 6 → ctM 0 b c = true
  | 0, 0, _, _ => ct000
  | 0, 1, _, _ => ct001
  | 0, 2, _, _ => ct002
  | 0, 3, _, _ => ct003
  | 0, 4, _, _ => ct004
  | 0, 5, _, _ => ct005
  | 0, c + 6, _, h => absurd h (by omega)
  | 1, 0, _, _ => ct010
  | 1, 1, _, _ => ct011
  | 1, 2, _, _ => ct012
  | 1, 3, _, _ => ct013
  | 1, 4, _, _ => ct014
  | 1, 5, _, _ => ct015
  | 1, c + 6, _, h => absurd h (by omega)
  | 2, 0, _, _ => ct020
  | 2, 1, _, _ => ct021
  | 2, 2, _, _ => ct022
  | 2, 3, _, _ => ct023
  | 2, 4, _, _ => ct024
  | 2, 5, _, _ => ct025
  | 2, c + 6, _, h => absurd h (by omega)
  | 3, 0, _, _ => ct030
  | 3, 1, _, _ => ct031
  | 3, 2, _, _ => ct032
  | 3, 3, _, _ => ct033
  | 3, 4, _, _ => ct034
  | 3, 5, _, _ => ct035
  | 3, c + 6, _, h => absurd h (by omega)
  | 4, 0, _, _ => ct040
  | 4, 1, _, _ => ct041
  | 4, 2, _, _ => ct042
  | 4, 3, _, _ => ct043
  | 4, 4, _, _ => ct044
  | 4, 5, _, _ => ct045
  | 4, c + 6, _, h => absurd h (by omega)
  | 5, 0, _, _ => ct050
  | 5, 1, _, _ => ct051
  | 5, 2, _, _ => ct052
  | 5, 3, _, _ => ct053
  | 5, 4, _, _ => ct054
  | 5, 5, _, _ => ct055
  | 5, c + 6, _, h => absurd h (by omega)
  | b + 6, _, h, _ => absurd h (by omega)
end Go.Proofs.Ytceipfakbklcbaa


/- The law AutoCounts: texts of 1 skips, worked out. -/
namespace Go.Proofs.Ytceipfakbklcbaa
open Go.HL
set_option maxRecDepth 100000

theorem ct100 : ctM 1 0 0 = true := by decide +kernel
theorem ct101 : ctM 1 0 1 = true := by decide +kernel
theorem ct102 : ctM 1 0 2 = true := by decide +kernel
theorem ct103 : ctM 1 0 3 = true := by decide +kernel
theorem ct104 : ctM 1 0 4 = true := by decide +kernel
theorem ct105 : ctM 1 0 5 = true := by decide +kernel
theorem ct110 : ctM 1 1 0 = true := by decide +kernel
theorem ct111 : ctM 1 1 1 = true := by decide +kernel
theorem ct112 : ctM 1 1 2 = true := by decide +kernel
theorem ct113 : ctM 1 1 3 = true := by decide +kernel
theorem ct114 : ctM 1 1 4 = true := by decide +kernel
theorem ct115 : ctM 1 1 5 = true := by decide +kernel
theorem ct120 : ctM 1 2 0 = true := by decide +kernel
theorem ct121 : ctM 1 2 1 = true := by decide +kernel
theorem ct122 : ctM 1 2 2 = true := by decide +kernel
theorem ct123 : ctM 1 2 3 = true := by decide +kernel
theorem ct124 : ctM 1 2 4 = true := by decide +kernel
theorem ct125 : ctM 1 2 5 = true := by decide +kernel
theorem ct130 : ctM 1 3 0 = true := by decide +kernel
theorem ct131 : ctM 1 3 1 = true := by decide +kernel
theorem ct132 : ctM 1 3 2 = true := by decide +kernel
theorem ct133 : ctM 1 3 3 = true := by decide +kernel
theorem ct134 : ctM 1 3 4 = true := by decide +kernel
theorem ct135 : ctM 1 3 5 = true := by decide +kernel
theorem ct140 : ctM 1 4 0 = true := by decide +kernel
theorem ct141 : ctM 1 4 1 = true := by decide +kernel
theorem ct142 : ctM 1 4 2 = true := by decide +kernel
theorem ct143 : ctM 1 4 3 = true := by decide +kernel
theorem ct144 : ctM 1 4 4 = true := by decide +kernel
theorem ct145 : ctM 1 4 5 = true := by decide +kernel
theorem ct150 : ctM 1 5 0 = true := by decide +kernel
theorem ct151 : ctM 1 5 1 = true := by decide +kernel
theorem ct152 : ctM 1 5 2 = true := by decide +kernel
theorem ct153 : ctM 1 5 3 = true := by decide +kernel
theorem ct154 : ctM 1 5 4 = true := by decide +kernel
theorem ct155 : ctM 1 5 5 = true := by decide +kernel
theorem ctX1 : ∀ b c, b < 6 → c < 6 → ctM 1 b c = true
  | 0, 0, _, _ => ct100
  | 0, 1, _, _ => ct101
  | 0, 2, _, _ => ct102
  | 0, 3, _, _ => ct103
  | 0, 4, _, _ => ct104
  | 0, 5, _, _ => ct105
  | 0, c + 6, _, h => absurd h (by omega)
  | 1, 0, _, _ => ct110
  | 1, 1, _, _ => ct111
  | 1, 2, _, _ => ct112
  | 1, 3, _, _ => ct113
  | 1, 4, _, _ => ct114
  | 1, 5, _, _ => ct115
  | 1, c + 6, _, h => absurd h (by omega)
  | 2, 0, _, _ => ct120
  | 2, 1, _, _ => ct121
  | 2, 2, _, _ => ct122
  | 2, 3, _, _ => ct123
  | 2, 4, _, _ => ct124
  | 2, 5, _, _ => ct125
  | 2, c + 6, _, h => absurd h (by omega)
  | 3, 0, _, _ => ct130
  | 3, 1, _, _ => ct131
  | 3, 2, _, _ => ct132
  | 3, 3, _, _ => ct133
  | 3, 4, _, _ => ct134
  | 3, 5, _, _ => ct135
  | 3, c + 6, _, h => absurd h (by omega)
  | 4, 0, _, _ => ct140
  | 4, 1, _, _ => ct141
  | 4, 2, _, _ => ct142
  | 4, 3, _, _ => ct143
  | 4, 4, _, _ => ct144
  | 4, 5, _, _ => ct145
  | 4, c + 6, _, h => absurd h (by omega)
  | 5, 0, _, _ => ct150
  | 5, 1, _, _ => ct151
  | 5, 2, _, _ => ct152
  | 5, 3, _, _ => ct153
  | 5, 4, _, _ => ct154
  | 5, 5, _, _ => ct155
  | 5, c + 6, _, h => absurd h (by omega)
  | b + 6, _, h, _ => absurd h (by omega)
end Go.Proofs.Ytceipfakbklcbaa


/- The law AutoCounts: texts of 2 skips, worked out. -/
namespace Go.Proofs.Ytceipfakbklcbaa
open Go.HL
set_option maxRecDepth 100000

theorem ct200 : ctM 2 0 0 = true := by decide +kernel
theorem ct201 : ctM 2 0 1 = true := by decide +kernel
theorem ct202 : ctM 2 0 2 = true := by decide +kernel
theorem ct203 : ctM 2 0 3 = true := by decide +kernel
theorem ct204 : ctM 2 0 4 = true := by decide +kernel
theorem ct205 : ctM 2 0 5 = true := by decide +kernel
theorem ct210 : ctM 2 1 0 = true := by decide +kernel
theorem ct211 : ctM 2 1 1 = true := by decide +kernel
theorem ct212 : ctM 2 1 2 = true := by decide +kernel
theorem ct213 : ctM 2 1 3 = true := by decide +kernel
theorem ct214 : ctM 2 1 4 = true := by decide +kernel
theorem ct215 : ctM 2 1 5 = true := by decide +kernel
theorem ct220 : ctM 2 2 0 = true := by decide +kernel
theorem ct221 : ctM 2 2 1 = true := by decide +kernel
theorem ct222 : ctM 2 2 2 = true := by decide +kernel
theorem ct223 : ctM 2 2 3 = true := by decide +kernel
theorem ct224 : ctM 2 2 4 = true := by decide +kernel
theorem ct225 : ctM 2 2 5 = true := by decide +kernel
theorem ct230 : ctM 2 3 0 = true := by decide +kernel
theorem ct231 : ctM 2 3 1 = true := by decide +kernel
theorem ct232 : ctM 2 3 2 = true := by decide +kernel
theorem ct233 : ctM 2 3 3 = true := by decide +kernel
theorem ct234 : ctM 2 3 4 = true := by decide +kernel
theorem ct235 : ctM 2 3 5 = true := by decide +kernel
theorem ct240 : ctM 2 4 0 = true := by decide +kernel
theorem ct241 : ctM 2 4 1 = true := by decide +kernel
theorem ct242 : ctM 2 4 2 = true := by decide +kernel
theorem ct243 : ctM 2 4 3 = true := by decide +kernel
theorem ct244 : ctM 2 4 4 = true := by decide +kernel
theorem ct245 : ctM 2 4 5 = true := by decide +kernel
theorem ct250 : ctM 2 5 0 = true := by decide +kernel
theorem ct251 : ctM 2 5 1 = true := by decide +kernel
theorem ct252 : ctM 2 5 2 = true := by decide +kernel
theorem ct253 : ctM 2 5 3 = true := by decide +kernel
theorem ct254 : ctM 2 5 4 = true := by decide +kernel
theorem ct255 : ctM 2 5 5 = true := by decide +kernel
theorem ctX2 : ∀ b c, b < 6 → c < 6 → ctM 2 b c = true
  | 0, 0, _, _ => ct200
  | 0, 1, _, _ => ct201
  | 0, 2, _, _ => ct202
  | 0, 3, _, _ => ct203
  | 0, 4, _, _ => ct204
  | 0, 5, _, _ => ct205
  | 0, c + 6, _, h => absurd h (by omega)
  | 1, 0, _, _ => ct210
  | 1, 1, _, _ => ct211
  | 1, 2, _, _ => ct212
  | 1, 3, _, _ => ct213
  | 1, 4, _, _ => ct214
  | 1, 5, _, _ => ct215
  | 1, c + 6, _, h => absurd h (by omega)
  | 2, 0, _, _ => ct220
  | 2, 1, _, _ => ct221
  | 2, 2, _, _ => ct222
  | 2, 3, _, _ => ct223
  | 2, 4, _, _ => ct224
  | 2, 5, _, _ => ct225
  | 2, c + 6, _, h => absurd h (by omega)
  | 3, 0, _, _ => ct230
  | 3, 1, _, _ => ct231
  | 3, 2, _, _ => ct232
  | 3, 3, _, _ => ct233
  | 3, 4, _, _ => ct234
  | 3, 5, _, _ => ct235
  | 3, c + 6, _, h => absurd h (by omega)
  | 4, 0, _, _ => ct240
  | 4, 1, _, _ => ct241
  | 4, 2, _, _ => ct242
  | 4, 3, _, _ => ct243
  | 4, 4, _, _ => ct244
  | 4, 5, _, _ => ct245
  | 4, c + 6, _, h => absurd h (by omega)
  | 5, 0, _, _ => ct250
  | 5, 1, _, _ => ct251
  | 5, 2, _, _ => ct252
  | 5, 3, _, _ => ct253
  | 5, 4, _, _ => ct254
  | 5, 5, _, _ => ct255
  | 5, c + 6, _, h => absurd h (by omega)
  | b + 6, _, h, _ => absurd h (by omega)
end Go.Proofs.Ytceipfakbklcbaa


/- The law AutoCounts: texts of 3 skips, worked out. -/
namespace Go.Proofs.Ytceipfakbklcbaa
open Go.HL
set_option maxRecDepth 100000

theorem ct300 : ctM 3 0 0 = true := by decide +kernel
theorem ct301 : ctM 3 0 1 = true := by decide +kernel
theorem ct302 : ctM 3 0 2 = true := by decide +kernel
theorem ct303 : ctM 3 0 3 = true := by decide +kernel
theorem ct304 : ctM 3 0 4 = true := by decide +kernel
theorem ct305 : ctM 3 0 5 = true := by decide +kernel
theorem ct310 : ctM 3 1 0 = true := by decide +kernel
theorem ct311 : ctM 3 1 1 = true := by decide +kernel
theorem ct312 : ctM 3 1 2 = true := by decide +kernel
theorem ct313 : ctM 3 1 3 = true := by decide +kernel
theorem ct314 : ctM 3 1 4 = true := by decide +kernel
theorem ct315 : ctM 3 1 5 = true := by decide +kernel
theorem ct320 : ctM 3 2 0 = true := by decide +kernel
theorem ct321 : ctM 3 2 1 = true := by decide +kernel
theorem ct322 : ctM 3 2 2 = true := by decide +kernel
theorem ct323 : ctM 3 2 3 = true := by decide +kernel
theorem ct324 : ctM 3 2 4 = true := by decide +kernel
theorem ct325 : ctM 3 2 5 = true := by decide +kernel
theorem ct330 : ctM 3 3 0 = true := by decide +kernel
theorem ct331 : ctM 3 3 1 = true := by decide +kernel
theorem ct332 : ctM 3 3 2 = true := by decide +kernel
theorem ct333 : ctM 3 3 3 = true := by decide +kernel
theorem ct334 : ctM 3 3 4 = true := by decide +kernel
theorem ct335 : ctM 3 3 5 = true := by decide +kernel
theorem ct340 : ctM 3 4 0 = true := by decide +kernel
theorem ct341 : ctM 3 4 1 = true := by decide +kernel
theorem ct342 : ctM 3 4 2 = true := by decide +kernel
theorem ct343 : ctM 3 4 3 = true := by decide +kernel
theorem ct344 : ctM 3 4 4 = true := by decide +kernel
theorem ct345 : ctM 3 4 5 = true := by decide +kernel
theorem ct350 : ctM 3 5 0 = true := by decide +kernel
theorem ct351 : ctM 3 5 1 = true := by decide +kernel
theorem ct352 : ctM 3 5 2 = true := by decide +kernel
theorem ct353 : ctM 3 5 3 = true := by decide +kernel
theorem ct354 : ctM 3 5 4 = true := by decide +kernel
theorem ct355 : ctM 3 5 5 = true := by decide +kernel
theorem ctX3 : ∀ b c, b < 6 → c < 6 → ctM 3 b c = true
  | 0, 0, _, _ => ct300
  | 0, 1, _, _ => ct301
  | 0, 2, _, _ => ct302
  | 0, 3, _, _ => ct303
  | 0, 4, _, _ => ct304
  | 0, 5, _, _ => ct305
  | 0, c + 6, _, h => absurd h (by omega)
  | 1, 0, _, _ => ct310
  | 1, 1, _, _ => ct311
  | 1, 2, _, _ => ct312
  | 1, 3, _, _ => ct313
  | 1, 4, _, _ => ct314
  | 1, 5, _, _ => ct315
  | 1, c + 6, _, h => absurd h (by omega)
  | 2, 0, _, _ => ct320
  | 2, 1, _, _ => ct321
  | 2, 2, _, _ => ct322
  | 2, 3, _, _ => ct323
  | 2, 4, _, _ => ct324
  | 2, 5, _, _ => ct325
  | 2, c + 6, _, h => absurd h (by omega)
  | 3, 0, _, _ => ct330
  | 3, 1, _, _ => ct331
  | 3, 2, _, _ => ct332
  | 3, 3, _, _ => ct333
  | 3, 4, _, _ => ct334
  | 3, 5, _, _ => ct335
  | 3, c + 6, _, h => absurd h (by omega)
  | 4, 0, _, _ => ct340
  | 4, 1, _, _ => ct341
  | 4, 2, _, _ => ct342
  | 4, 3, _, _ => ct343
  | 4, 4, _, _ => ct344
  | 4, 5, _, _ => ct345
  | 4, c + 6, _, h => absurd h (by omega)
  | 5, 0, _, _ => ct350
  | 5, 1, _, _ => ct351
  | 5, 2, _, _ => ct352
  | 5, 3, _, _ => ct353
  | 5, 4, _, _ => ct354
  | 5, 5, _, _ => ct355
  | 5, c + 6, _, h => absurd h (by omega)
  | b + 6, _, h, _ => absurd h (by omega)
end Go.Proofs.Ytceipfakbklcbaa


/- The law AutoCounts: texts of 4 skips, worked out. -/
namespace Go.Proofs.Ytceipfakbklcbaa
open Go.HL
set_option maxRecDepth 100000

theorem ct400 : ctM 4 0 0 = true := by decide +kernel
theorem ct401 : ctM 4 0 1 = true := by decide +kernel
theorem ct402 : ctM 4 0 2 = true := by decide +kernel
theorem ct403 : ctM 4 0 3 = true := by decide +kernel
theorem ct404 : ctM 4 0 4 = true := by decide +kernel
theorem ct405 : ctM 4 0 5 = true := by decide +kernel
theorem ct410 : ctM 4 1 0 = true := by decide +kernel
theorem ct411 : ctM 4 1 1 = true := by decide +kernel
theorem ct412 : ctM 4 1 2 = true := by decide +kernel
theorem ct413 : ctM 4 1 3 = true := by decide +kernel
theorem ct414 : ctM 4 1 4 = true := by decide +kernel
theorem ct415 : ctM 4 1 5 = true := by decide +kernel
theorem ct420 : ctM 4 2 0 = true := by decide +kernel
theorem ct421 : ctM 4 2 1 = true := by decide +kernel
theorem ct422 : ctM 4 2 2 = true := by decide +kernel
theorem ct423 : ctM 4 2 3 = true := by decide +kernel
theorem ct424 : ctM 4 2 4 = true := by decide +kernel
theorem ct425 : ctM 4 2 5 = true := by decide +kernel
theorem ct430 : ctM 4 3 0 = true := by decide +kernel
theorem ct431 : ctM 4 3 1 = true := by decide +kernel
theorem ct432 : ctM 4 3 2 = true := by decide +kernel
theorem ct433 : ctM 4 3 3 = true := by decide +kernel
theorem ct434 : ctM 4 3 4 = true := by decide +kernel
theorem ct435 : ctM 4 3 5 = true := by decide +kernel
theorem ct440 : ctM 4 4 0 = true := by decide +kernel
theorem ct441 : ctM 4 4 1 = true := by decide +kernel
theorem ct442 : ctM 4 4 2 = true := by decide +kernel
theorem ct443 : ctM 4 4 3 = true := by decide +kernel
theorem ct444 : ctM 4 4 4 = true := by decide +kernel
theorem ct445 : ctM 4 4 5 = true := by decide +kernel
theorem ct450 : ctM 4 5 0 = true := by decide +kernel
theorem ct451 : ctM 4 5 1 = true := by decide +kernel
theorem ct452 : ctM 4 5 2 = true := by decide +kernel
theorem ct453 : ctM 4 5 3 = true := by decide +kernel
theorem ct454 : ctM 4 5 4 = true := by decide +kernel
theorem ct455 : ctM 4 5 5 = true := by decide +kernel
theorem ctX4 : ∀ b c, b < 6 → c < 6 → ctM 4 b c = true
  | 0, 0, _, _ => ct400
  | 0, 1, _, _ => ct401
  | 0, 2, _, _ => ct402
  | 0, 3, _, _ => ct403
  | 0, 4, _, _ => ct404
  | 0, 5, _, _ => ct405
  | 0, c + 6, _, h => absurd h (by omega)
  | 1, 0, _, _ => ct410
  | 1, 1, _, _ => ct411
  | 1, 2, _, _ => ct412
  | 1, 3, _, _ => ct413
  | 1, 4, _, _ => ct414
  | 1, 5, _, _ => ct415
  | 1, c + 6, _, h => absurd h (by omega)
  | 2, 0, _, _ => ct420
  | 2, 1, _, _ => ct421
  | 2, 2, _, _ => ct422
  | 2, 3, _, _ => ct423
  | 2, 4, _, _ => ct424
  | 2, 5, _, _ => ct425
  | 2, c + 6, _, h => absurd h (by omega)
  | 3, 0, _, _ => ct430
  | 3, 1, _, _ => ct431
  | 3, 2, _, _ => ct432
  | 3, 3, _, _ => ct433
  | 3, 4, _, _ => ct434
  | 3, 5, _, _ => ct435
  | 3, c + 6, _, h => absurd h (by omega)
  | 4, 0, _, _ => ct440
  | 4, 1, _, _ => ct441
  | 4, 2, _, _ => ct442
  | 4, 3, _, _ => ct443
  | 4, 4, _, _ => ct444
  | 4, 5, _, _ => ct445
  | 4, c + 6, _, h => absurd h (by omega)
  | 5, 0, _, _ => ct450
  | 5, 1, _, _ => ct451
  | 5, 2, _, _ => ct452
  | 5, 3, _, _ => ct453
  | 5, 4, _, _ => ct454
  | 5, 5, _, _ => ct455
  | 5, c + 6, _, h => absurd h (by omega)
  | b + 6, _, h, _ => absurd h (by omega)
end Go.Proofs.Ytceipfakbklcbaa


/- The law AutoCounts: texts of 5 skips, worked out. -/
namespace Go.Proofs.Ytceipfakbklcbaa
open Go.HL
set_option maxRecDepth 100000

theorem ct500 : ctM 5 0 0 = true := by decide +kernel
theorem ct501 : ctM 5 0 1 = true := by decide +kernel
theorem ct502 : ctM 5 0 2 = true := by decide +kernel
theorem ct503 : ctM 5 0 3 = true := by decide +kernel
theorem ct504 : ctM 5 0 4 = true := by decide +kernel
theorem ct505 : ctM 5 0 5 = true := by decide +kernel
theorem ct510 : ctM 5 1 0 = true := by decide +kernel
theorem ct511 : ctM 5 1 1 = true := by decide +kernel
theorem ct512 : ctM 5 1 2 = true := by decide +kernel
theorem ct513 : ctM 5 1 3 = true := by decide +kernel
theorem ct514 : ctM 5 1 4 = true := by decide +kernel
theorem ct515 : ctM 5 1 5 = true := by decide +kernel
theorem ct520 : ctM 5 2 0 = true := by decide +kernel
theorem ct521 : ctM 5 2 1 = true := by decide +kernel
theorem ct522 : ctM 5 2 2 = true := by decide +kernel
theorem ct523 : ctM 5 2 3 = true := by decide +kernel
theorem ct524 : ctM 5 2 4 = true := by decide +kernel
theorem ct525 : ctM 5 2 5 = true := by decide +kernel
theorem ct530 : ctM 5 3 0 = true := by decide +kernel
theorem ct531 : ctM 5 3 1 = true := by decide +kernel
theorem ct532 : ctM 5 3 2 = true := by decide +kernel
theorem ct533 : ctM 5 3 3 = true := by decide +kernel
theorem ct534 : ctM 5 3 4 = true := by decide +kernel
theorem ct535 : ctM 5 3 5 = true := by decide +kernel
theorem ct540 : ctM 5 4 0 = true := by decide +kernel
theorem ct541 : ctM 5 4 1 = true := by decide +kernel
theorem ct542 : ctM 5 4 2 = true := by decide +kernel
theorem ct543 : ctM 5 4 3 = true := by decide +kernel
theorem ct544 : ctM 5 4 4 = true := by decide +kernel
theorem ct545 : ctM 5 4 5 = true := by decide +kernel
theorem ct550 : ctM 5 5 0 = true := by decide +kernel
theorem ct551 : ctM 5 5 1 = true := by decide +kernel
theorem ct552 : ctM 5 5 2 = true := by decide +kernel
theorem ct553 : ctM 5 5 3 = true := by decide +kernel
theorem ct554 : ctM 5 5 4 = true := by decide +kernel
theorem ct555 : ctM 5 5 5 = true := by decide +kernel
theorem ctX5 : ∀ b c, b < 6 → c < 6 → ctM 5 b c = true
  | 0, 0, _, _ => ct500
  | 0, 1, _, _ => ct501
  | 0, 2, _, _ => ct502
  | 0, 3, _, _ => ct503
  | 0, 4, _, _ => ct504
  | 0, 5, _, _ => ct505
  | 0, c + 6, _, h => absurd h (by omega)
  | 1, 0, _, _ => ct510
  | 1, 1, _, _ => ct511
  | 1, 2, _, _ => ct512
  | 1, 3, _, _ => ct513
  | 1, 4, _, _ => ct514
  | 1, 5, _, _ => ct515
  | 1, c + 6, _, h => absurd h (by omega)
  | 2, 0, _, _ => ct520
  | 2, 1, _, _ => ct521
  | 2, 2, _, _ => ct522
  | 2, 3, _, _ => ct523
  | 2, 4, _, _ => ct524
  | 2, 5, _, _ => ct525
  | 2, c + 6, _, h => absurd h (by omega)
  | 3, 0, _, _ => ct530
  | 3, 1, _, _ => ct531
  | 3, 2, _, _ => ct532
  | 3, 3, _, _ => ct533
  | 3, 4, _, _ => ct534
  | 3, 5, _, _ => ct535
  | 3, c + 6, _, h => absurd h (by omega)
  | 4, 0, _, _ => ct540
  | 4, 1, _, _ => ct541
  | 4, 2, _, _ => ct542
  | 4, 3, _, _ => ct543
  | 4, 4, _, _ => ct544
  | 4, 5, _, _ => ct545
  | 4, c + 6, _, h => absurd h (by omega)
  | 5, 0, _, _ => ct550
  | 5, 1, _, _ => ct551
  | 5, 2, _, _ => ct552
  | 5, 3, _, _ => ct553
  | 5, 4, _, _ => ct554
  | 5, 5, _, _ => ct555
  | 5, c + 6, _, h => absurd h (by omega)
  | b + 6, _, h, _ => absurd h (by omega)
end Go.Proofs.Ytceipfakbklcbaa


/- The law AutoCounts, over heaps. -/
namespace Go.Proofs.Ytceipfakbklcbaa
open Go.HL
set_option maxRecDepth 10000
set_option linter.unusedSimpArgs false
set_option linter.unusedVariables false

theorem ctAll {a b c : Nat} (ha : a < 6) (hb : b < 6) (hc : c < 6) : ctM a b c = true := by
  have : a = 0 ∨ a = 1 ∨ a = 2 ∨ a = 3 ∨ a = 4 ∨ a = 5 := by omega
  rcases this with rfl | rfl | rfl | rfl | rfl | rfl
  · exact ctX0 b c hb hc
  · exact ctX1 b c hb hc
  · exact ctX2 b c hb hc
  · exact ctX3 b c hb hc
  · exact ctX4 b c hb hc
  · exact ctX5 b c hb hc
section
variable {H : Heap}
set_option maxHeartbeats 4000000 in
theorem autoCounts_spec {m0 m1 m2 : Int} (h0 : 0 ≤ m0 ∧ m0 ≤ 255) (h1 : 0 ≤ m1 ∧ m1 ≤ 255) (h2 : 0 ≤ m2 ∧ m2 ≤ 255) : CallF Try.prog 4 [.int .u8 m0, .int .u8 m1, .int .u8 m2] H (fun r H' => r = .bool true ∧ Fr [] H H') NoP := by
  have w0 : IntKind.i64.wrap m0 = m0 := IntWalk.i64_in _ (by omega)
  have w1 : IntKind.i64.wrap m1 = m1 := IntWalk.i64_in _ (by omega)
  have w2 : IntKind.i64.wrap m2 = m2 := IntWalk.i64_in _ (by omega)
  have tm0 : m0.tmod 6 = m0 % 6 := Int.tmod_eq_emod_of_nonneg (by omega)
  have tm1 : m1.tmod 6 = m1 % 6 := Int.tmod_eq_emod_of_nonneg (by omega)
  have tm2 : m2.tmod 6 = m2 % 6 := Int.tmod_eq_emod_of_nonneg (by omega)
  obtain ⟨a, ha⟩ : ∃ a : Nat, m0 % 6 = (a : Int) := ⟨(m0 % 6).toNat, by omega⟩
  obtain ⟨b, hb⟩ : ∃ b : Nat, m1 % 6 = (b : Int) := ⟨(m1 % 6).toNat, by omega⟩
  obtain ⟨c, hc⟩ : ∃ c : Nat, m2 % 6 = (c : Int) := ⟨(m2 % 6).toNat, by omega⟩
  rw [ha] at tm0
  rw [hb] at tm1
  rw [hc] at tm2
  have ha6 : a < 6 := by omega
  have hb6 : b < 6 := by omega
  have hc6 : c < 6 := by omega
  have L0 : ([112, 114, 111, 99, 32, 112, 32, 123, 32] : Str).length = 9 := rfl
  have L1 : ([115, 107, 105, 112, 59, 32] : Str).length = 6 := rfl
  have L2 : ([105, 102, 32, 49, 32, 123, 32, 115, 107, 105, 112, 59, 32, 125, 32] : Str).length = 15 := rfl
  have L3 : ([119, 104, 105, 108, 101, 32, 49, 32, 123, 32, 115, 107, 105, 112, 59, 32, 125, 32] : Str).length = 18 := rfl
  have L5 : ([125] : Str).length = 1 := rfl
  have lenA : ∀ i, (ctA i).length = 9 + i * 6 := fun i => repS_len i
  have lenB : ∀ i, (ctB a i).length = 9 + a * 6 + i * 15 := fun i => by unfold ctB; rw [repS_len, lenA]; rfl
  have lenC : ∀ i, (ctC a b i).length = 9 + a * 6 + b * 15 + i * 18 := fun i => by unfold ctC; rw [repS_len, lenB]; rfl
  obtain ⟨l, p1, s1, z1, p, hpp, hp1, hp2⟩ := ct_open (ctAll ha6 hb6 hc6)
  refine callF_of Try.func4 rfl Try.ntmps4 Try.results4 (by decide) rfl ?_
  simp (disch := omega) only [go_sem, ↓cw_block, dsB_of]
  refine call_to w13awake_spec ?_
  intro r0 H0 hv
  refine Hush.out ?_
  obtain ⟨rfl, f0⟩ := hv
  refine ⟨?_⟩
  simp (disch := omega) only [go_sem, ↓cw_block, dsB_of, w0, w1, w2, tm0, tm1, tm2]
  refine loop_by (fun k ρ H2 => ∃ i : Nat, k = a - i ∧ i ≤ a ∧ H0 = H2 ∧ (ρ.get 7 = iv a ∧ ρ.get 8 = iv b ∧ ρ.get 9 = iv c ∧ ρ.get 10 = sv (ctA i) ∧ ρ.get 11 = iv i ∧ ρ.ds = [])) (k := a) ?_ ?_
  · exact ⟨0, rfl, by omega, rfl, by (simp (disch := omega) only [go_sem, ↓cw_block, dsB_of, w0, w1, w2, tm0, tm1, tm2]) <;> rfl⟩
  · rintro k ρ _ ⟨i, rfl, hi, rfl, r7, r8, r9, r10, r11, rd⟩
    have hxi : (i : Int) + 1 = ((i + 1 : Nat) : Int) := by omega
    have hln := lenA i
    by_cases hin : i < a
    · simp (disch := omega) only [go_sem, ↓cw_block, dsB_of, r7, r8, r9, r10, r11, rd, L1, hln]
      exact fin ⟨a - (i + 1), by omega, i + 1, rfl, by omega, rfl, by (simp (disch := omega) only [go_sem, ↓cw_block, dsB_of, r7, r8, r9, r10, r11, rd, hxi]) <;> rfl⟩
    obtain rfl : i = a := by omega
    simp (disch := omega) only [go_sem, ↓cw_block, dsB_of, r7, r8, r9, r10, r11, rd]
    refine loop_by (fun k ρ H2 => ∃ j : Nat, k = b - j ∧ j ≤ b ∧ H0 = H2 ∧ (ρ.get 7 = iv i ∧ ρ.get 8 = iv b ∧ ρ.get 9 = iv c ∧ ρ.get 10 = sv (ctB i j) ∧ ρ.get 12 = iv j ∧ ρ.ds = [])) (k := b) ?_ ?_
    · exact ⟨0, rfl, by omega, rfl, by (simp (disch := omega) only [go_sem, ↓cw_block, dsB_of, r7, r8, r9, r10, r11, rd]) <;> rfl⟩
    · clear r7 r8 r9 r10 r11 rd ρ
      rintro k ρ _ ⟨j, rfl, hj, rfl, r7, r8, r9, r10, r12, rd⟩
      have hxj : (j : Int) + 1 = ((j + 1 : Nat) : Int) := by omega
      have hln := lenB j
      by_cases hjn : j < b
      · simp (disch := omega) only [go_sem, ↓cw_block, dsB_of, r7, r8, r9, r10, r12, rd, L2, hln]
        exact fin ⟨b - (j + 1), by omega, j + 1, rfl, by omega, rfl, by (simp (disch := omega) only [go_sem, ↓cw_block, dsB_of, r7, r8, r9, r10, r12, rd, hxj]) <;> rfl⟩
      obtain rfl : j = b := by omega
      simp (disch := omega) only [go_sem, ↓cw_block, dsB_of, r7, r8, r9, r10, r12, rd]
      refine loop_by (fun k ρ H2 => ∃ h : Nat, k = c - h ∧ h ≤ c ∧ H0 = H2 ∧ (ρ.get 7 = iv i ∧ ρ.get 8 = iv j ∧ ρ.get 9 = iv c ∧ ρ.get 10 = sv (ctC i j h) ∧ ρ.get 13 = iv h ∧ ρ.ds = [])) (k := c) ?_ ?_
      · exact ⟨0, rfl, by omega, rfl, by (simp (disch := omega) only [go_sem, ↓cw_block, dsB_of, r7, r8, r9, r10, r12, rd]) <;> rfl⟩
      · clear r7 r8 r9 r10 r12 rd ρ
        rintro k ρ _ ⟨h, rfl, hh, rfl, r7, r8, r9, r10, r13, rd⟩
        have hxh : (h : Int) + 1 = ((h + 1 : Nat) : Int) := by omega
        have hln := lenC h
        by_cases hhn : h < c
        · simp (disch := omega) only [go_sem, ↓cw_block, dsB_of, r7, r8, r9, r10, r13, rd, L3, hln]
          exact fin ⟨c - (h + 1), by omega, h + 1, rfl, by omega, rfl, by (simp (disch := omega) only [go_sem, ↓cw_block, dsB_of, r7, r8, r9, r10, r13, rd, hxh]) <;> rfl⟩
        obtain rfl : h = c := by omega
        simp (disch := omega) only [go_sem, ↓cw_block, dsB_of, r7, r8, r9, r10, r13, rd, L5, hln]
        refine call_to (parse_spec p1) ?_
        intro r1 H1 hv
        refine Hush.out ?_
        obtain ⟨v1, rfl, f1, nl1⟩ := hv
        obtain ⟨A1, hA1⟩ : ∃ A, A = H1.push (.cells #[iv 0, iv 0] 42) := ⟨_, rfl⟩
        have g1 : Fr [] H1 A1 := by rw [hA1]; exact Fr.push
        have bF : Blk A1 H1.size 42 [iv 0, iv 0] := by rw [hA1]; exact Blk.new rfl
        refine ⟨?_⟩
        simp (disch := omega) only [go_sem, ↓cw_block, dsB_of, fltV, r7, r8, r9, rd]
        rw [← hA1]
        refine call_to (auMake_ok (nl1.grow g1) z1 s1) ?_
        intro r2 H2 hv
        refine Hush.out ?_
        obtain ⟨f2, w, aps, rfl, mr⟩ := hv
        obtain ⟨d0, t0, d1, t1, d2, t2, d3, t3, d4, t4, w0', w1', w2', w3', w4'⟩ := mr.cells
        have hmc : moC w (modM l) = [.slice d0 l.length t0, iv (modM l).globals, .slice d1 (modM l).chans.length t1, .slice d2 (modM l).vars.length t2, .slice d3 (modM l).procs.length t3, .slice d4 (modM l).safe.length t4, .bool (modM l).dead] := by
          unfold moC; rw [w0', w1', w2', w3', w4']
        rw [hmc]
        obtain ⟨A, hA⟩ : ∃ A, A = H2.push (.cells #[.slice d0 l.length t0, iv (modM l).globals, .slice d1 (modM l).chans.length t1, .slice d2 (modM l).vars.length t2, .slice d3 (modM l).procs.length t3, .slice d4 (modM l).safe.length t4, .bool (modM l).dead] 30) := ⟨_, rfl⟩
        have f3 : Fr [] H2 A := by rw [hA]; exact Fr.push
        have bA : Blk A H2.size 30 (moC w (modM l)) := by rw [hA, hmc]; exact Blk.new rfl
        rw [hmc] at bA
        have bF' := (f2.trans f3).blk bF (by simp)
        have kF := bF'.cell 0
        have mA := mr.frame (Keeps.of_fr f3 (by simp))
        have k4 := bA.cell 4
        simp only [List.getElem?_cons_succ, List.getElem?_cons_zero] at k4 kF
        obtain ⟨pb, po, pc, ap, e1, e2, apr, -, cs⟩ := mA.proc (i := 0) (p := p) (by rw [hpp]; rfl)
        rw [w3'] at e1
        simp only [Value.slice.injEq, true_and] at e1
        obtain ⟨rfl, rfl⟩ := e1
        obtain ⟨x1, c1, x2, c2, x3, c3, x4, c4, x5, c5, g1', g2', g3', g4', g5'⟩ := apr.forms
        have k43 := cs 3 _ rfl
        have k45 := cs 5 _ rfl
        rw [g3'] at k45
        rw [e2, hp2] at k45
        rw [e2, hp1] at k43
        simp only [Nat.zero_mul, Nat.add_zero] at k43 k45
        have hpl : ((modM l).procs.length : Int) = 1 := by rw [hpp]; rfl
        refine ⟨?_⟩
        simp (disch := omega) only [go_sem, ↓cw_block, dsB_of, r7, r8, r9, rd]
        try rw [← hA]
        try (simp (disch := omega) only [go_sem, ↓cw_block, dsB_of, kF, k4, hpl, r7, r8, r9, rd, k43, k45])
        refine fin ⟨?_, ((f0.trans f1).trans g1).trans (f2.trans f3)⟩
        congr 1
        rw [decide_eq_true_eq]
        omega
end
end Go.Proofs.Ytceipfakbklcbaa


/- Proved: for every input the law AutoCounts returns true, and its arguments read as they did. No condition. -/
namespace Go.Proofs.Ytceipfakbklcbaa.autoCounts
open Go.ChangeShapes Go.WideShapes Go.ChangeAt Go.RowKit Go.HL
set_option linter.unusedVariables false

theorem own : ownKnob Try.prog.godebug = none := by kernel_rfl
theorem laidOut : laidOutB Try.prog = true := by kernel_rfl

set_option maxRecDepth 100000 in
theorem lifted (os : Os) (started : os.Started) (H : Type) (enc : TypeId × Value → H) :
    ReturnsInHanded {} Try.checked os 4 .any (Rows.autoCountsSpec.pre6 enc Try.prog Try.f4 Rows.autoCountsRow.domain false) (Rows.autoCountsSpec.post enc Try.prog Try.f4 false true false false) := by
  refine returnsInHanded_of_change (C := Try.checked) own started (by kernel_rfl) Try.func4
    (ChangeSpec.witness6 (enc := enc) (C := Try.checked) false ⟨#[], #[.int .u8 0, .int .u8 0, .int .u8 0], []⟩ 8 (by kernel_rfl) (by kernel_rfl) (by kernel_rfl) (by kernel_rfl)) ?_
  intro W base args ds gs before hval0 hW _ _
  have hval : ∀ (j : Nat) t v, Try.f4.params[j]? = some t → args[j]? = some v → Value.okWide Try.prog W .any base t v := hval0
  have hW' := hW
  obtain ⟨p, q, hA0, hV, rfl, hfz, hnd⟩ := hW
  have hA : DataW.TrodAll enc Try.prog W 0 (fun _ => true) true Try.f4.params.toList args.toList ds p := hA0
  rw [Try.params4] at hA hval
  obtain ⟨v0, v1, v2, d0, d1, d2, p0, p1, p2, rfl, rfl, rfl, t0, t1, t2⟩ := trodAll_three hA
  obtain ⟨rfl, rfl⟩ := trodVars_none hV
  obtain ⟨m0, rfl, rfl, rfl, wm0⟩ := open_int Try.underlying5 (hval 0 5 v0 rfl rfl) t0
  have h0 : 0 ≤ m0 ∧ m0 ≤ 255 := by simpa [Lit.wf, IntKind.min, IntKind.max, IntKind.signed, IntKind.bits] using wm0
  obtain ⟨m1, rfl, rfl, rfl, wm1⟩ := open_int Try.underlying5 (hval 1 5 v1 rfl rfl) t1
  have h1 : 0 ≤ m1 ∧ m1 ≤ 255 := by simpa [Lit.wf, IntKind.min, IntKind.max, IntKind.signed, IntKind.bits] using wm1
  obtain ⟨m2, rfl, rfl, rfl, wm2⟩ := open_int Try.underlying5 (hval 2 5 v2 rfl rfl) t2
  have h2 : 0 ≤ m2 ∧ m2 ≤ 255 := by simpa [Lit.wf, IntKind.min, IntKind.max, IntKind.signed, IntKind.bits] using wm2
  have hcall := hcalls_of_callF Try.func4 rfl (by decide) (autoCounts_spec (H := W.heap) h0 h1 h2)
  refine (calls_of_hcalls hcall (R := fun W' => Below W.heap.size W W') (fun W' hb => hb)).mono ?_
  rintro e W' ⟨v, rfl, rfl, hb⟩
  exact ⟨_, rfl, law_post laidOut (by rw [Try.params4]; intro t ht; simp at ht; rcases ht with rfl | rfl | rfl <;> exact ⟨by kernel_rfl, of_decide_eq_true (by kernel_rfl)⟩) (tb := 4) (by kernel_rfl) Try.underlying4 rfl rfl rfl rfl hW' hb⟩

theorem proved : Rows.AutoCountsSaid :=
  OpenClaim.holds_of_wide 4 Try.f4 rfl rfl rfl rfl rfl rfl rfl ⟨rfl, rfl, rfl, rfl, rfl⟩ rfl rfl rfl rfl rfl (by kernel_rfl) Try.func4 (by kernel_rfl)
    (of_decide_eq_true (by kernel_rfl)) (by unfold Func.isWrapper; first | (rw [if_pos (by decide +kernel)]; kernel_rfl) | (rw [if_neg (by decide +kernel)]; exact ⟨rfl, rfl⟩))
    (fun os started H enc _ => lifted os started H enc)
#print axioms proved
end Go.Proofs.Ytceipfakbklcbaa.autoCounts
