/- Graphs: what each function of theirs does to memory. -/
import Derived.Test.YtplcehlonfhooaaT
import Derived.Test.YtplcehlonfhooaaHLMapP
namespace Go.Proofs.Ytplcehlonfhooaa
open Go.HL
set_option maxRecDepth 10000
set_option linter.unusedSimpArgs false

abbrev hp (p : Nat) : Value := .pointer (some ⟨p, 0, none⟩)
abbrev iv (n : Int) : Value := .int .i64 n
/-- An edge, turned. -/
def nx (n : Nat) : Nat := if n % 2 = 0 then n + 1 else n - 1
theorem xor_one (n : Nat) : n ^^^ 1 = nx n := by
  have h1 : (n ^^^ 1) / 2 = n / 2 := by rw [Nat.xor_div_two]; simp
  have h2 : (n ^^^ 1) % 2 = (n + 1) % 2 := by
    have := Nat.testBit_xor n 1 0
    simp only [Nat.testBit_zero] at this
    rcases Nat.mod_two_eq_zero_or_one n with h | h <;> rcases Nat.mod_two_eq_zero_or_one (n ^^^ 1) with h' | h' <;> simp [h, h'] at this <;> omega
  unfold nx
  split <;> omega
theorem bin_xor1 {V : HV} {t : TypeId} {xo yo : Operand} {n : Nat} (h : (n : Int) < 9223372036854775807) : binV Try.prog V .xor t xo yo (iv n) (iv 1) = some (iv (nx n)) := by
  have e : (BitVec.ofInt 64 (n : Int) ^^^ BitVec.ofInt 64 1).toNat = nx n := by
    rw [← xor_one, BitVec.toNat_xor]
    have a1 : (BitVec.ofInt 64 (n : Int)).toNat = n := by
      rw [BitVec.toNat_ofInt]; omega
    rw [a1]
    rfl
  show some (Value.int .i64 (IntKind.i64.wrap ((BitVec.ofInt 64 (n : Int) ^^^ BitVec.ofInt 64 1).toNat : Nat))) = _
  rw [e, wrap64 (by unfold nx; split <;> omega)]

theorem not_spec {H : Heap} {n : Nat} (h : (n : Int) < 9223372036854775807) : CallF Try.prog 12 [iv n] H (fun r H' => H = H' ∧ r = iv (nx n)) NoP := by
  have e := fun V t xo yo => bin_xor1 (V := V) (t := t) (xo := xo) (yo := yo) h
  refine callF_of Try.func12 rfl Try.ntmps12 Try.results12 (by decide) rfl ?_
  simp (disch := omega) only [go_sem, ↓cw_block, e]
  exact fin ⟨rfl, rfl⟩

abbrev Pr := Nat × Nat
abbrev prc (p : Pr) : List Value := [iv p.1, iv p.2]
abbrev prk (x : Pr × Nat) : (Int × Int) × Int := ((x.1.1, x.1.2), x.2)
/-- A graph in memory. -/
structure GM (H : Heap) (g mr : Nat) (nv nw : Value) (ns : List Pr) (ins : List Nat) (kn : List (Pr × Nat)) : Prop where
  self : Blk H g 68 [nv, nw, .map (some mr)]
  vn : Vec H 63 2 nv (ns.flatMap prc)
  vi : IV H 3 nw (ins.map Int.ofNat)
  mp : MapR H mr ((kn.map prk).map pvp)
  s1 : g ∉ own nv
  s2 : g ∉ own nw
  s3 : ∀ b ∈ own nv, b ∉ own nw
  s4 : mr ∉ own nv ∧ mr ∉ own nw ∧ mr ≠ g
def gB (g mr : Nat) (nv nw : Value) : List Nat := g :: mr :: (own nv ++ own nw)
/-- A graph is well made. -/
structure GW (ns : List Pr) (ins : List Nat) (kn : List (Pr × Nat)) : Prop where
  pos : 0 < ns.length
  big : ns.length ≤ 200000
  nd : ∀ (i : Nat) p, ns[i]? = some p → p = (0, 0) ∨ (p ≠ (0, 0) ∧ p.1 < 2 * i ∧ p.2 < 2 * i)
  inp : ∀ n ∈ ins, 0 < n ∧ ns[n]? = some (0, 0)
  nod : ins.Nodup
  kn : ∀ x ∈ kn, 0 < x.2 ∧ ns[x.2]? = some x.1
  il : ins.length ≤ ns.length
def Gr (H : Heap) (g : Nat) (B : List Nat) (ns : List Pr) (ins : List Nat) : Prop := ∃ mr nv nw kn, GM H g mr nv nw ns ins kn ∧ GW ns ins kn ∧ B = gB g mr nv nw
theorem prc_len : ∀ x : Pr, (prc x).length = 2 := fun _ => rfl
section
variable {H : Heap} {g mr : Nat} {nv nw : Value} {ns : List Pr} {ins : List Nat} {kn : List (Pr × Nat)} {B : List Nat}
theorem GM.c0 (h : GM H g mr nv nw ns ins kn) : cellH H ⟨g, 0, none⟩ = some nv := h.self.cell 0
theorem GM.c1 (h : GM H g mr nv nw ns ins kn) : cellH H ⟨g, 1, none⟩ = some nw := h.self.cell 1
theorem GM.c2 (h : GM H g mr nv nw ns ins kn) : cellH H ⟨g, 2, none⟩ = some (.map (some mr)) := h.self.cell 2
theorem GM.lt (h : GM H g mr nv nw ns ins kn) : ∀ b ∈ gB g mr nv nw, b < H.size := by
  intro b hb
  simp only [gB, List.mem_cons, List.mem_append] at hb
  rcases hb with rfl | rfl | hb | hb
  · exact h.self.lt
  · exact h.mp.lt
  · exact h.vn.lt b hb
  · exact h.vi.lt b hb
theorem GM.frame {H' : Heap} {F : List Nat} (h : GM H g mr nv nw ns ins kn) (hf : Fr F H H') (hd : ∀ b ∈ gB g mr nv nw, b ∉ F) : GM H' g mr nv nw ns ins kn :=
  ⟨hf.blk h.self (hd g (by simp [gB])), h.vn.frame hf (fun b hb => hd b (by simp [gB, hb])), h.vi.frame hf (fun b hb => hd b (by simp [gB, hb])), h.mp.frame hf (hd mr (by simp [gB])), h.s1, h.s2, h.s3, h.s4⟩
theorem Gr.frame {H' : Heap} {F : List Nat} (h : Gr H g B ns ins) (hf : Fr F H H') (hd : ∀ b ∈ B, b ∉ F) : Gr H' g B ns ins := by
  obtain ⟨mr, nv, nw, kn, h1, h2, rfl⟩ := h
  exact ⟨mr, nv, nw, kn, h1.frame hf hd, h2, rfl⟩
theorem Gr.lt (h : Gr H g B ns ins) : ∀ b ∈ B, b < H.size := by
  obtain ⟨mr, nv, nw, kn, h1, h2, rfl⟩ := h
  exact h1.lt

theorem nodes_spec (h : Gr H g B ns ins) : CallF Try.prog 30 [hp g] H (fun r H' => H = H' ∧ r = iv ns.length) NoP := by
  obtain ⟨mr, nv, nw, kn, h, hw, rfl⟩ := h
  obtain ⟨a, c, e⟩ := h.vn.form prc_len (by omega)
  have c0 := h.c0
  rw [e] at c0
  refine callF_of Try.func30 rfl Try.ntmps30 Try.results30 (by decide) rfl ?_
  simp (disch := omega) only [go_sem, ↓cw_block, c0]
  exact fin ⟨rfl, rfl⟩
/-- An edge of the graph. -/
def ownM (ns : List Pr) (e : Int) : Nat := if 0 ≤ e ∧ e < 2 * ns.length then e.toNat else 0
theorem own_spec (h : Gr H g B ns ins) {e : Int} (he : e ≤ 9223372036854775807) : CallF Try.prog 33 [hp g, iv e] H (fun r H' => H = H' ∧ r = iv (ownM ns e)) NoP := by
  obtain ⟨mr, nv, nw, kn, h, hw, rfl⟩ := h
  obtain ⟨a, c, ev⟩ := h.vn.form prc_len (by omega)
  have c0 := h.c0
  rw [ev] at c0
  unfold ownM
  refine callF_of Try.func33 rfl Try.ntmps33 Try.results33 (by decide) rfl ?_
  by_cases h1 : e < 0
  · simp (disch := omega) only [go_sem, ↓cw_block, c0]
    exact fin ⟨rfl, by rw [if_neg (by omega)]; rfl⟩
  · by_cases h2 : (ns.length : Int) ≤ e / 2
    · simp (disch := omega) only [go_sem, ↓cw_block, c0]
      exact fin ⟨rfl, by rw [if_neg (by omega)]; rfl⟩
    · simp (disch := omega) only [go_sem, ↓cw_block, c0]
      exact fin ⟨rfl, by rw [if_pos (by omega), Int.toNat_of_nonneg (by omega)]⟩
theorem ownM_lt {ns : List Pr} (hp : 0 < ns.length) (e : Int) : ownM ns e < 2 * ns.length := by
  unfold ownM; split <;> omega
theorem node_spec (h : Gr H g B ns ins) {n : Nat} {p : Pr} (hn : ns[n]? = some p) :
    CallF Try.prog 24 [hp g, iv n] H (fun r H' => H = H' ∧ r = if p = (0, 0) then .tuple #[iv 0, iv 0, .bool false] else .tuple #[iv p.1, iv p.2, .bool true]) NoP := by
  obtain ⟨mr, nv, nw, kn, h, hw, rfl⟩ := h
  obtain ⟨b, o, c, ev, hc⟩ := h.vn.rows prc_len (by omega) hn
  have hl := (List.getElem?_eq_some_iff.1 hn).1
  have hbig := hw.big
  have k0 := hc 0 (by omega)
  have k1 := hc 1 (by omega)
  simp only [List.getElem?_cons_zero, List.getElem?_cons_succ, Nat.add_zero] at k0 k1
  have c0 := h.c0
  rw [ev] at c0
  refine callF_of Try.func24 rfl Try.ntmps24 Try.results24 (by decide) rfl ?_
  by_cases hz : p = (0, 0)
  · subst hz
    rw [if_pos rfl]
    simp (disch := omega) only [go_sem, ↓cw_block, c0, k0, k1, cellsH, Int.natCast_zero]
    exact fin ⟨rfl, rfl⟩
  · rw [if_neg hz]
    have hz' : ¬ ((p.1 : Int) = 0 ∧ (p.2 : Int) = 0) := by
      rintro ⟨e1, e2⟩
      exact hz (Prod.ext (by simpa using e1) (by simpa using e2))
    simp (disch := omega) only [go_sem, ↓cw_block, c0, k0, k1, cellsH, hz', decide_false]
    refine draw0 (lk [(0, true), (1, true), (2, true), (3, true), (4, true), (5, true), (6, true), (7, true), (8, true), (9, true), (10, true), (11, true), (12, true), (13, true), (14, true), (15, true), (16, true), (17, true), (18, true)] .fin) T.mixed ?_
    simp (disch := omega) only [go_sem, ↓cw_block, c0, k0, k1]
    exact fin ⟨rfl, rfl⟩

theorem add_spec (h : GM H g mr nv nw ns ins kn) (hl : ns.length < 200000) {a b : Nat} : CallF Try.prog 34 [hp g, .agg #[iv a, iv b]] H (fun r H' => r = iv ns.length ∧ ∃ nv', GM H' g mr nv' nw (ns ++ [(a, b)]) ins kn ∧
    Fr (gB g mr nv nw) H H' ∧ ∀ x ∈ own nv', x ∈ own nv ∨ H.size ≤ x) NoP := by
  have bs : ∀ Hx : Heap, buildSliceV Try.prog Hx 65 1 [(0, .agg #[iv a, iv b])] = some (.slice (some ⟨Hx.size, 0, none⟩) 1 1, Hx.push (.cells #[iv a, iv b] 63)) := by
    intro Hx
    refine bsl_sound (vs := [.agg #[iv a, iv b]]) ?_
    simp [bsl, T.elem65, T.size63, T.zero63, chk, Value.cells]
  obtain ⟨H1, hH1⟩ : ∃ H1, H1 = H.push (.cells #[iv a, iv b] 63) := ⟨_, rfl⟩
  have f1 : Fr [] H H1 := by rw [hH1]; exact Fr.push
  have x1 : Blk H1 H.size 63 [iv a, iv b] := by rw [hH1]; exact Blk.new rfl
  have y0 : cellH H1 ⟨H.size, 0, none⟩ = some (iv a) := x1.cell 0
  have y1 : cellH H1 ⟨H.size, 1, none⟩ = some (iv b) := x1.cell 1
  have h1 := h.frame f1 (by simp)
  obtain ⟨an, cn, ev⟩ := h.vn.form prc_len (by omega)
  subst ev
  have c0 := h1.c0
  refine callF_of Try.func34 rfl Try.ntmps34 Try.results34 (by decide) rfl ?_
  simp (disch := omega) only [go_sem, ↓cw_block, cells_agg]
  rw [← hH1]
  simp (disch := omega) only [go_sem, ↓cw_block, c0, newPtr]
  refine draw1 (lk [(0, false), (1, false), (2, false), (3, false), (4, false), (5, true)] (.act 6 (.act 7 (lk [(8, true), (9, true)] (.actd 10 .fin)) .non) .non)) T.mixed [(⟨g, 0, none⟩, .slice an ns.length cn)] (heldOK_one c0) ?_
  simp (disch := omega) only [go_sem, ↓cw_block, c0, newPtr, y0, y1, cellsH, bs]
  refine held_by (heldOK_one ((Fr.push (F := [])).cell' c0 (by simp))) ?_
  simp (disch := omega) only [go_sem, ↓cw_block]
  refine app_lit (n := 1) (new := [iv a, iv b]) T.el65 rfl h1.vn (by simp [oneC]) rfl (by intro a' l c e; simp only [Value.slice.injEq] at e; obtain ⟨_, rfl, _⟩ := e; omega) ?_
  intro v' H2 g1 g2 g3 g4
  obtain ⟨a2, c2, rfl⟩ := g4 _ _ _ rfl
  have d0 := g2.cell' c0 h.s1
  refine held_by (heldOK_one d0) ?_
  have b2 := g2.blk h1.self h.s1
  have w2 := b2.wr (i := 0) (by simp) (.slice a2 (ns.length + 1) c2)
  have b3 := b2.set 0 (.slice a2 (ns.length + 1) c2)
  have F3 : Fr [g] H2 (setH H2 ⟨g, 0, none⟩ (.slice a2 (ns.length + 1) c2)) := Fr.set (by simp)
  have hgs := h1.self.lt
  have hms := h1.mp.lt
  have q1 : g ∉ own (Value.slice a2 (ns.length + 1) c2) := fun e => (g3 _ e).elim h.s1 (fun e => by omega)
  have q2 : ∀ x ∈ own (Value.slice a2 (ns.length + 1) c2), x ∉ own nw := by
    intro x hx e
    rcases g3 x hx with e' | e'
    · exact h.s3 x e' e
    · have := h1.vi.lt x e; omega
  have q3 : mr ∉ own (Value.slice a2 (ns.length + 1) c2) := fun e => (g3 _ e).elim h.s4.1 (fun e => by omega)
  have h3 : GM (setH H2 ⟨g, 0, none⟩ (.slice a2 (ns.length + 1) c2)) g mr (.slice a2 (ns.length + 1) c2) nw (ns ++ [(a, b)]) ins kn := by
    refine ⟨b3, ?_, ?_, ?_, q1, h.s2, q2, q3, h.s4.2⟩
    · have : (ns ++ [(a, b)]).flatMap prc = ns.flatMap prc ++ [iv a, iv b] := by simp
      rw [this]
      exact g1.frame F3 (by intro x hx e; simp at e; subst e; exact q1 hx)
    · exact (h1.vi.frame g2 (fun x hx e => h.s3 x e hx)).frame F3 (by intro x hx e; simp at e; subst e; exact h.s2 hx)
    · exact (h1.mp.frame g2 h.s4.1).frame F3 (by simp; exact h.s4.2.2)
  have F4 : Fr (gB g mr (.slice an ns.length cn) nw) H (setH H2 ⟨g, 0, none⟩ (.slice a2 (ns.length + 1) c2)) :=
    ((f1.mono (by simp)).trans (g2.mono (fun b _ hb => by simp [gB, hb]))).trans (F3.mono (fun b _ hb => by simp at hb; simp [gB, hb]))
  generalize hH3 : setH H2 ⟨g, 0, none⟩ (.slice a2 (ns.length + 1) c2) = H3 at h3 F4
  have d3 := h3.c0
  have e3 : ((ns.length + 1 : Nat) : Int) - 1 = (ns.length : Int) := by omega
  simp (disch := omega) only [go_sem, ↓cw_block, w2, hH3, d3, e3]
  refine fin ⟨rfl, _, h3, F4, fun x hx => ?_⟩
  rcases g3 x hx with e | e
  · exact .inl e
  · right; have := f1.size; omega
end
end Go.Proofs.Ytplcehlonfhooaa
