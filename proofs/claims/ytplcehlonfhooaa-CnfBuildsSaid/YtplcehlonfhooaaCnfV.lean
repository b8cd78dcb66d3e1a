/- The graph as the law tells it. -/
import Derived.Test.YtplcehlonfhooaaCnfU
namespace Go.Proofs.Ytplcehlonfhooaa
open Go.HL
set_option maxRecDepth 10000
set_option linter.unusedSimpArgs false

abbrev rgc (p : Pr) : List Value := [.bool (decide (p = (0, 0))), iv p.1, iv p.2]
theorem rgc_len : ∀ x : Pr, (rgc x).length = 3 := fun _ => rfl
/-- The document's graph in memory: the nodes behind the first. -/
structure RG (H : Heap) (t : Nat) (lv : Value) (qs : List Pr) : Prop where
  self : Blk H t 72 [lv]
  vl : Vec H 74 3 lv (qs.flatMap rgc)
  s1 : t ∉ own lv
def rB (t : Nat) (lv : Value) : List Nat := t :: own lv
theorem RG.frame {H H' : Heap} {F : List Nat} {t : Nat} {lv : Value} {qs : List Pr} (h : RG H t lv qs) (hf : Fr F H H') (hd : ∀ b ∈ rB t lv, b ∉ F) : RG H' t lv qs :=
  ⟨hf.blk h.self (hd t (by simp [rB])), h.vl.frame hf (fun b hb => hd b (by simp [rB, hb])), h.s1⟩
section
variable {H : Heap} {g : Nat} {Bg : List Nat} {ns : List Pr} {ins : List Nat}
theorem told_spec (h : Gr H g Bg ns ins) (hl : ns.length ≤ 500) : CallF Try.prog 15 [hp g] H (fun r H' => Fr [] H H' ∧ ∃ t lv, r = hp t ∧ RG H' t lv (ns.drop 1) ∧ ∀ b ∈ rB t lv, H.size ≤ b) NoP := by
  have hpos := h.w.1
  have hnd := h.w.2.2.1
  refine callF_of Try.func15 rfl Try.ntmps15 Try.results15 (by decide) rfl ?_
  simp (disch := omega) only [go_sem, ↓cw_block]
  refine loop_by (fun k ρ H1 => ∃ (i : Nat) (lv : Value), k = ns.length - i ∧ 1 ≤ i ∧ i ≤ ns.length ∧ (ρ.get 0 = hp g ∧ ρ.get 3 = hp H.size ∧ ρ.get 4 = iv i ∧ ρ.ds = []) ∧ Fr [] H H1 ∧ RG H1 H.size lv ((ns.drop 1).take (i - 1)) ∧ ∀ b ∈ rB H.size lv, H.size ≤ b) (k := ns.length - 1) ?_ ?_
  · exact ⟨1, .slice none 0 0, rfl, by omega, by omega, by simp (disch := omega) only [go_sem, ↓cw_block, newPtr]; rfl, Fr.push, ⟨Blk.new rfl, Vec.nil, by simp [own]⟩, by simp [rB, own]⟩
  · rintro k ρ H1 ⟨i, lv, rfl, hi1, hi, ⟨r0, r3, r4, rd⟩, f1, rg, hB⟩
    have h1 := h.frame f1 (by simp)
    have hi2 : (i : Int) + 1 = ((i + 1 : Nat) : Int) := by omega
    simp (disch := omega) only [go_sem, ↓cw_block, r0, r3, r4, rd]
    refine call_to (nodes_spec h1) ?_
    rintro _ _ ⟨rfl, rfl⟩
    by_cases hin : i < ns.length
    · obtain ⟨p, hp⟩ : ∃ p, ns[i]? = some p := ⟨ns[i], by simp [hin]⟩
      have bs : ∀ (Hx : Heap) (x : Bool) (y z : Int), buildSliceV Try.prog Hx 70 1 [(0, .agg #[.bool x, iv y, iv z])] = some (.slice (some ⟨Hx.size, 0, none⟩) 1 1, Hx.push (.cells #[.bool x, iv y, iv z] 74)) := by
        intro Hx x y z
        refine bsl_sound (vs := [.agg #[.bool x, iv y, iv z]]) ?_
        simp [bsl, T.elem70, T.size74, T.zero74, chk, Value.cells]
      obtain ⟨la, lc, el⟩ := rg.vl.form rgc_len (by omega)
      have hlt : ((ns.drop 1).take (i - 1)).length = i - 1 := by simp; omega
      rw [hlt] at el
      subst el
      have c0 : cellH H1 ⟨H.size, 0, none⟩ = some (.slice la (i - 1) lc) := rg.self.cell 0
      have last : ∀ (x : Bool), x = decide (p = (0, 0)) → ∀ (k : Value → Heap → Prop), (∀ w' H2, Fr [] H (setH H2 ⟨H.size, 0, none⟩ w') → wr H2 ⟨H.size, 0, none⟩ w' = some (setH H2 ⟨H.size, 0, none⟩ w') → RG (setH H2 ⟨H.size, 0, none⟩ w') H.size w' ((ns.drop 1).take (i + 1 - 1)) → (∀ b ∈ rB H.size w', H.size ≤ b) → (∃ a c, w' = .slice a i c) → k w' H2) →
          @appB Try.prog 70 70 (.slice la (i - 1) lc) (.slice (some ⟨H1.size, 0, none⟩) 1 1) ⟨H1.push (.cells #[.bool x, iv p.1, iv p.2] 74)⟩ ⟨k⟩ := by
        intro x hx k hk
        refine app_lit (n := 1) (new := [.bool x, iv p.1, iv p.2]) T.el70 rfl rg.vl (by simp [oneC]) rfl (by intro a' l c e; simp only [Value.slice.injEq] at e; obtain ⟨_, rfl, _⟩ := e; omega) ?_
        intro w' H2 g1 g2 g3 g4
        obtain ⟨a2, c2, ew⟩ := g4 _ _ _ rfl
        have hsz := rg.self.lt
        have q1 : H.size ∉ own w' := fun e => (g3 _ e).elim rg.s1 (fun e => by omega)
        have b2 := g2.blk rg.self rg.s1
        have F3 : Fr [H.size] H2 (setH H2 ⟨H.size, 0, none⟩ w') := Fr.set (by simp)
        refine hk w' H2 (fr_new' (fr_new' f1 g2 (fun b hb => hB b (by simp [rB, hb]))) F3 (by simp)) (b2.wr (by simp) w') ⟨b2.set 0 w', ?_, q1⟩ ?_ ⟨a2, c2, by rw [ew]; congr 1; omega⟩
        · have e5 : (ns.drop 1).take (i + 1 - 1) = (ns.drop 1).take (i - 1) ++ [p] := by
            have e6 : i + 1 - 1 = (i - 1) + 1 := by omega
            rw [e6, List.take_add_one, List.getElem?_drop]
            have e7 : 1 + (i - 1) = i := by omega
            rw [e7, hp]; rfl
          rw [e5, List.flatMap_append]
          have e8 : [p].flatMap rgc = [.bool x, iv p.1, iv p.2] := by rw [hx]; simp
          rw [e8]
          exact g1.frame F3 (by intro b hb e; simp at e; subst e; exact q1 hb)
        · intro b hb
          simp only [rB, List.mem_cons] at hb
          rcases hb with rfl | hb
          · exact Nat.le_refl _
          · exact (g3 b hb).elim (fun q => hB b (by simp [rB, q])) (fun q => by have := f1.size; omega)
      by_cases hz : p = (0, 0)
      · simp (disch := omega) only [go_sem, ↓cw_block, r0, r3, r4, rd]
        refine call_to (node_spec h1 hp) ?_
        rintro _ _ ⟨rfl, rfl⟩
        rw [if_pos hz]
        simp (disch := omega) only [go_sem, ↓cw_block, r0, r3, r4, rd, c0, bs]
        have := last true (by simp [hz])
        rw [hz] at this
        refine this _ ?_
        rintro w' H2 F2 w2 rg2 hB2 ⟨a2, c2, rfl⟩
        simp (disch := omega) only [go_sem, ↓cw_block, r0, r3, r4, rd, w2]
        exact fin ⟨ns.length - (i + 1), by omega, i + 1, _, rfl, by omega, by omega, by simp (disch := omega) only [go_sem, ↓cw_block, r0, r3, r4, rd, hi2], F2, rg2, hB2⟩
      · have hk := hnd i p hp
        rcases hk with hk | ⟨_, hk1, hk2⟩
        · exact absurd hk hz
        simp (disch := omega) only [go_sem, ↓cw_block, r0, r3, r4, rd]
        refine call_to (node_spec h1 hp) ?_
        rintro _ _ ⟨rfl, rfl⟩
        rw [if_neg hz]
        simp (disch := omega) only [go_sem, ↓cw_block, r0, r3, r4, rd, c0, bs]
        refine last false (by simp [hz]) _ ?_
        rintro w' H2 F2 w2 rg2 hB2 ⟨a2, c2, rfl⟩
        simp (disch := omega) only [go_sem, ↓cw_block, r0, r3, r4, rd, w2]
        exact fin ⟨ns.length - (i + 1), by omega, i + 1, _, rfl, by omega, by omega, by simp (disch := omega) only [go_sem, ↓cw_block, r0, r3, r4, rd, hi2], F2, rg2, hB2⟩
    · have : i = ns.length := by omega
      subst this
      rw [List.take_of_length_le (by simp)] at rg
      simp (disch := omega) only [go_sem, ↓cw_block, r0, r3, r4, rd, dsB_of]
      exact fin ⟨f1, _, _, rfl, rg, hB⟩
end
end Go.Proofs.Ytplcehlonfhooaa
