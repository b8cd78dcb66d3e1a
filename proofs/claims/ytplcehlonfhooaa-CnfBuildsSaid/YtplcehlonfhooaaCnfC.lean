/- A maker and the document's, side by side. -/
import Derived.Test.YtplcehlonfhooaaCnfF
import Derived.Test.YtplcehlonfhooaaCnfPl
namespace Go.Proofs.Ytplcehlonfhooaa
open Go.HL
set_option maxRecDepth 10000
set_option linter.unusedSimpArgs false
set_option linter.unusedVariables false

/-- Both makers, and the clauses that were taken. -/
structure PQ (H3 K : Heap) (g m q t : Nat) (lv : Value) (Bg Bm Bq : List Nat) (ns : List Pr) (ins : List Nat) (sm sq : MS) (cv : Value) (E : List (List Int)) (C : List Nat) : Prop where
  fr : Fr [] H3 K
  gm : GMk K g m Bg Bm ns ins sm
  qr : QRt K q t lv Bq ns sq
  cvk : CVec K cv E C
  bg : ∀ b ∈ Bg, b < H3.size
  br : ∀ b ∈ rB t lv, b < H3.size
  nm : ∀ b ∈ Bm, H3.size ≤ b
  nq : ∀ b ∈ Bq, H3.size ≤ b
  nc : ∀ b ∈ own cv ++ C, H3.size ≤ b
  d1 : ∀ b ∈ Bm, b ∉ Bq
  d2 : ∀ b ∈ own cv ++ C, b ∉ Bm ∧ b ∉ Bq
  d3 : ∀ b ∈ C, b ∉ own cv
  cl : ∀ b ∈ own cv ++ C, b < K.size
section
variable {H3 K K' : Heap} {g m q t : Nat} {lv cv : Value} {Bg Bm Bq C F : List Nat} {ns : List Pr} {ins : List Nat} {sm sq : MS} {E : List (List Int)}
theorem PQ.frame (h : PQ H3 K g m q t lv Bg Bm Bq ns ins sm sq cv E C) (hf : Fr F K K') (hF : ∀ b ∈ F, H3.size ≤ b ∧ b ∉ Bm ∧ b ∉ Bq ∧ b ∉ own cv ++ C) : PQ H3 K' g m q t lv Bg Bm Bq ns ins sm sq cv E C :=
  { fr := fr_new' h.fr hf (fun b hb => (hF b hb).1)
    gm := h.gm.frame hf (fun b hb e => by have := h.bg b hb; have := (hF b e).1; omega) (fun b hb e => (hF b e).2.1 hb)
    qr := h.qr.frame hf (fun b hb e => by have := h.br b hb; have := (hF b e).1; omega) (fun b hb e => (hF b e).2.2.1 hb)
    cvk := h.cvk.frame hf (fun b hb e => (hF b e).2.2.2 (by simp [hb])) (fun b hb e => (hF b e).2.2.2 (by simp [hb]))
    bg := h.bg, br := h.br, nm := h.nm, nq := h.nq, nc := h.nc, d1 := h.d1, d2 := h.d2, d3 := h.d3
    cl := fun b hb => Nat.lt_of_lt_of_le (h.cl b hb) hf.size }
theorem mLit_pq (h : PQ H3 K g m q t lv Bg Bm Bq ns ins sm sq cv E C) {e : Int} (he : e ≤ 9223372036854775807) :
    CallF Try.prog 9 [hp m, iv e] K (fun r K' => r = iv (litM (needM ns (ownM ns e / 2) sm).1 (ownM ns e)) ∧ Fr Bm K K' ∧ ∃ Bm', PQ H3 K' g m q t lv Bg Bm' Bq ns ins (needM ns (ownM ns e / 2) sm) sq cv E C) NoP := by
  refine (Lit_spec h.gm he).to ?_
  rintro _ K1 ⟨rfl, f1, B1, gm1, g1⟩
  have hs := h.fr.size
  have lq := h.qr.qk.lt
  refine ⟨rfl, f1, B1, { fr := fr_new' h.fr f1 h.nm, gm := gm1, qr := h.qr.frame f1 (fun b hb e => by have := h.br b hb; have := h.nm b e; omega) (fun b hb e => h.d1 b e hb), cvk := h.cvk.frame f1 (fun b hb => (h.d2 b (by simp [hb])).1) (fun b hb => (h.d2 b (by simp [hb])).1), bg := h.bg, br := h.br, nm := fun b hb => (g1 b hb).elim (h.nm b) (fun e => by omega), nq := h.nq, nc := h.nc, d1 := fun b hb e => (g1 b hb).elim (fun x => h.d1 b x e) (fun x => by have := lq b e; omega), d2 := fun b hb => ⟨fun e => (g1 b e).elim (h.d2 b hb).1 (fun x => by have := h.cl b hb; omega), (h.d2 b hb).2⟩, d3 := h.d3, cl := fun b hb => Nat.lt_of_lt_of_le (h.cl b hb) f1.size }⟩
theorem qLit_pq (h : PQ H3 K g m q t lv Bg Bm Bq ns ins sm sq cv E C) {e : Nat} (he : e < 2 * ns.length) :
    CallF Try.prog 17 [hp q, iv e] K (fun r K' => r = iv (litM (needM ns (e / 2) sq).1 e) ∧ Fr Bq K K' ∧ ∃ Bq', PQ H3 K' g m q t lv Bg Bm Bq' ns ins sm (needM ns (e / 2) sq) cv E C) NoP := by
  refine (qLit_spec h.qr h.gm.dn h.gm.big he).to ?_
  rintro _ K1 ⟨rfl, f1, B1, q1, g1⟩
  have hs := h.fr.size
  have lm := h.gm.mkr.lt
  refine ⟨rfl, f1, B1, { fr := fr_new' h.fr f1 h.nq, gm := h.gm.frame f1 (fun b hb e => by have := h.bg b hb; have := h.nq b e; omega) (fun b hb e => h.d1 b hb e), qr := q1, cvk := h.cvk.frame f1 (fun b hb => (h.d2 b (by simp [hb])).2) (fun b hb => (h.d2 b (by simp [hb])).2), bg := h.bg, br := h.br, nm := h.nm, nq := fun b hb => (g1 b hb).elim (h.nq b) (fun e => by omega), nc := h.nc, d1 := fun b hb e => (g1 b e).elim (fun x => h.d1 b hb x) (fun x => by have := lm b hb; omega), d2 := fun b hb => ⟨(h.d2 b hb).1, fun e => (g1 b e).elim (h.d2 b hb).2 (fun x => by have := h.cl b hb; omega)⟩, d3 := h.d3, cl := fun b hb => Nat.lt_of_lt_of_le (h.cl b hb) f1.size }⟩
/-- Take, and append. -/
theorem take_pq (h : PQ H3 K g m q t lv Bg Bm Bq ns ins sm sq cv E C) (hE : E.length + sm.2.length ≤ 1000000) :
    CallF Try.prog 10 [hp m] K (fun v H1 => ∀ k : Value → Heap → Prop, (∀ cv' K' Bm' C', PQ H3 K' g m q t lv Bg Bm' Bq ns ins (sm.1, []) sq cv' (E ++ sm.2) C' → k cv' K') → @appB Try.prog 32 32 cv v ⟨H1⟩ ⟨k⟩) NoP := by
  refine (take_spec h.gm.mkr).to ?_
  rintro v K1 ⟨C1, cv1, c1, f1, B1, mk1, b1, n1⟩
  intro k hk
  have cvK := h.cvk.frame f1 (fun b hb => (h.d2 b (by simp [hb])).1) (fun b hb => (h.d2 b (by simp [hb])).1)
  refine capp T.el32 rfl (by omega) cvK cv1 (by omega) h.d3 (fun b hb e => (h.d2 b (by simp [e])).1 (c1 b (by simp [hb]))) ?_
  rintro cv' K2 k1 k2 k3 ⟨a2, c2, rfl⟩
  have lm := h.gm.mkr.lt
  have lq := h.qr.qk.lt
  have hs := h.fr.size
  have s1 := f1.size
  have fr1 := fr_new' h.fr f1 h.nm
  have ck1 : ∀ b ∈ own cv, H3.size ≤ b ∧ b ∉ Bm ∧ b ∉ Bq := fun b hb => ⟨h.nc b (by simp [hb]), (h.d2 b (by simp [hb])).1, (h.d2 b (by simp [hb])).2⟩
  have bm1 := mk1.lt
  have bq1 : ∀ b ∈ Bq, b < K1.size := fun b hb => Nat.lt_of_lt_of_le (lq b hb) s1
  have v1 : ∀ b ∈ own v ++ C1, b < K1.size := fun b hb => Nat.lt_of_lt_of_le (lm b (c1 b hb)) s1
  refine hk _ K2 B1 (C ++ C1)
    { fr := fr_new' fr1 k2 (fun b hb => (ck1 b hb).1), gm := ⟨(h.gm.gr.frame f1 h.gm.dis).frame k2 (fun b hb e => by have := h.bg b hb; have := (ck1 b e).1; omega), mk1.frame k2 (fun b hb e => (ck1 b e).2.1 (b1 b hb)), fun b hb e => h.gm.dis b hb (b1 b e), h.gm.nd, h.gm.rg, by simp⟩
      qr := (h.qr.frame f1 (fun b hb e => by have := h.br b hb; have := h.nm b e; omega) (fun b hb e => h.d1 b e hb)).frame k2 (fun b hb e => by have := h.br b hb; have := (ck1 b e).1; omega) (fun b hb e => (ck1 b e).2.2 hb)
      cvk := k1, bg := h.bg, br := h.br, nm := fun b hb => h.nm b (b1 b hb), nq := h.nq, nc := ?_, d1 := fun b hb => h.d1 b (b1 b hb), d2 := ?_, d3 := ?_, cl := ?_ }
  · intro b hb
    simp only [List.mem_append] at hb
    rcases hb with hb | hb | hb
    · exact (k3 b hb).elim (fun e => (ck1 b e).1) (fun e => by omega)
    · exact h.nc b (by simp [hb])
    · exact h.nm b (c1 b (by simp [hb]))
  · intro b hb
    simp only [List.mem_append] at hb
    rcases hb with hb | hb | hb
    · rcases k3 b hb with e | e
      · exact ⟨fun x => (ck1 b e).2.1 (b1 b x), (ck1 b e).2.2⟩
      · exact ⟨fun x => by have := bm1 b x; omega, fun x => by have := bq1 b x; omega⟩
    · exact ⟨fun x => (h.d2 b (by simp [hb])).1 (b1 b x), (h.d2 b (by simp [hb])).2⟩
    · exact ⟨n1 b (by simp [hb]), fun x => h.d1 b (c1 b (by simp [hb])) x⟩
  · intro b hb e
    simp only [List.mem_append] at hb
    rcases k3 b e with e' | e'
    · rcases hb with hb | hb
      · exact h.d3 b hb e'
      · exact (ck1 b e').2.1 (c1 b (by simp [hb]))
    · rcases hb with hb | hb
      · have := h.cl b (by simp [hb]); omega
      · have := v1 b (by simp [hb]); omega
  · intro b hb
    simp only [List.mem_append] at hb
    have s2 := k2.size
    rcases hb with hb | hb | hb
    · obtain ⟨cvs, a, _⟩ := k1; exact a.lt b hb
    · have := h.cl b (by simp [hb]); omega
    · have := v1 b (by simp [hb]); omega
end
end Go.Proofs.Ytplcehlonfhooaa
