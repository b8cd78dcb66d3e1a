/- The value of a node: the plain model, and what Eval answers. -/
import Derived.Test.YtplcehlonfhooaaCnfY
namespace Go.Proofs.Ytplcehlonfhooaa
open Go.HL
set_option maxRecDepth 10000
set_option linter.unusedSimpArgs false

/-- An edge's value, by those of the nodes. -/
def eV (f : Nat → Bool) (e : Nat) : Bool := f (e / 2) != decide (e % 2 = 1)
def inV (ins : List Nat) (model : List Bool) (n : Nat) : Bool := decide (n ∈ ins) && bt model (ins.idxOf n)
def nvF (ns : List Pr) (ins : List Nat) (model : List Bool) : Nat → Nat → Bool
  | 0, _ => false
  | f + 1, n => if ns.getD n (0, 0) = (0, 0) then inV ins model n else eV (nvF ns ins model f) (ns.getD n (0, 0)).1 && eV (nvF ns ins model f) (ns.getD n (0, 0)).2
/-- A node's value. -/
def nv (ns : List Pr) (ins : List Nat) (model : List Bool) (n : Nat) : Bool := nvF ns ins model (n + 1) n
theorem nvF_fuel {ns : List Pr} {ins : List Nat} {model : List Bool} (h : Dn ns) : ∀ (f f' n : Nat), n < f → n < f' → nvF ns ins model f n = nvF ns ins model f' n := by
  intro f
  induction f with
  | zero => intro f' n h1; omega
  | succ f ih =>
    intro f' n h1 h2
    cases f' with
    | zero => omega
    | succ f' =>
      simp only [nvF]
      split
      · rfl
      · rename_i hne
        have hk := h.kid n hne
        unfold eV
        rw [ih f' _ (by omega) (by omega), ih f' _ (by omega) (by omega)]
theorem nv_leaf {ns : List Pr} {ins : List Nat} {model : List Bool} {n : Nat} (hp : ns.getD n (0, 0) = (0, 0)) : nv ns ins model n = inV ins model n := by
  unfold nv nvF; rw [if_pos hp]
theorem nv_and {ns : List Pr} {ins : List Nat} {model : List Bool} (h : Dn ns) {n : Nat} (hp : ns.getD n (0, 0) ≠ (0, 0)) :
    nv ns ins model n = (eV (nv ns ins model) (ns.getD n (0, 0)).1 && eV (nv ns ins model) (ns.getD n (0, 0)).2) := by
  have hk := h.kid n hp
  have e : nv ns ins model n = (eV (nvF ns ins model n) (ns.getD n (0, 0)).1 && eV (nvF ns ins model n) (ns.getD n (0, 0)).2) := by
    unfold nv; rw [nvF, if_neg hp]
  rw [e]
  unfold eV nv
  rw [nvF_fuel h n ((ns.getD n (0, 0)).1 / 2 + 1) _ (by omega) (by omega), nvF_fuel h n ((ns.getD n (0, 0)).2 / 2 + 1) _ (by omega) (by omega)]

def rl (n : Nat) (f : Nat → Bool) : List Bool := (List.range n).map f
theorem rl_len {n : Nat} {f : Nat → Bool} : (rl n f).length = n := by simp [rl]
theorem rl_at {n i : Nat} {f : Nat → Bool} (h : i < n) : bt (rl n f) i = f i := by simp [rl, bt, h]
theorem rl_set {n i : Nat} {f g : Nat → Bool} (h : i < n) (hg : ∀ j, j < n → j ≠ i → g j = f j) : (rl n f).set i (g i) = rl n g := by
  apply List.ext_getElem
  · simp [rl]
  · intro j h1 h2
    rw [List.getElem_set]
    split
    · rename_i e; subst e; simp [rl]
    · rename_i e; simp [rl] at h2 ⊢; exact (hg j h2 (Ne.symm e)).symm
theorem rl_congr {n : Nat} {f g : Nat → Bool} (h : ∀ j, j < n → f j = g j) : rl n f = rl n g := by
  unfold rl
  apply List.map_congr_left
  intro j hj
  exact h j (by simpa using hj)
theorem take1 {α : Type} {l : List α} {i : Nat} (h : i < l.length) : l.take (i + 1) = l.take i ++ [l[i]] := by rw [List.take_add_one, List.getElem?_eq_getElem h]; rfl
/-- The values when the first i inputs are laid. -/
def stI (ins : List Nat) (model : List Bool) (i n : Nat) : Bool := decide (n ∈ ins.take i) && bt model (ins.idxOf n)
theorem stI_all {ins : List Nat} {model : List Bool} {n : Nat} : stI ins model ins.length n = inV ins model n := by simp [stI, inV]
theorem stI_next {ins : List Nat} {model : List Bool} {i n : Nat} (hi : i < ins.length) (hn : n ≠ ins[i]) : stI ins model (i + 1) n = stI ins model i n := by
  unfold stI
  rw [take1 hi]
  simp only [List.mem_append, List.mem_singleton, hn, or_false]
theorem stI_self {ins : List Nat} {model : List Bool} (hd : ins.Nodup) {i : Nat} (hi : i < ins.length) : stI ins model (i + 1) ins[i] = bt model i := by
  unfold stI
  have : ins[i] ∈ ins.take (i + 1) := by rw [take1 hi, List.mem_append]; exact .inr (by simp)
  rw [decide_eq_true this, List.Nodup.idxOf_getElem hd i hi]; rfl
theorem stI_not {ins : List Nat} {model : List Bool} (hd : ins.Nodup) {i : Nat} (hi : i < ins.length) : stI ins model i ins[i] = false := by
  unfold stI
  have : ins[i] ∉ ins.take i := by
    intro h
    obtain ⟨j, hj, e⟩ := List.mem_take_iff_getElem.1 h
    have := (List.getElem_inj (h₀ := by omega) (h₁ := hi) hd).1 e
    omega
  rw [decide_eq_false this]; rfl
/-- The values when the first k nodes are worked out. -/
def stN (ns : List Pr) (ins : List Nat) (model : List Bool) (k n : Nat) : Bool := if n < k then nv ns ins model n else inV ins model n
theorem rl_false {n : Nat} : List.replicate n (Value.bool false) = (rl n fun _ => false).map Value.bool := by
  apply List.ext_getElem
  · simp [rl]
  · intro i h1 h2; simp [rl]
section
variable {H : Heap} {g : Nat} {B : List Nat} {ns : List Pr} {ins : List Nat}
theorem stN_zero {model : List Bool} {n : Nat} : stN ns ins model 0 n = inV ins model n := by simp [stN]
theorem stN_ne {model : List Bool} {k n : Nat} (h : n ≠ k) : stN ns ins model (k + 1) n = stN ns ins model k n := by
  unfold stN
  by_cases h1 : n < k
  · rw [if_pos h1, if_pos (by omega)]
  · rw [if_neg h1, if_neg (by omega)]
theorem stN_self {model : List Bool} {k : Nat} : stN ns ins model (k + 1) k = nv ns ins model k := by simp [stN]
theorem stN_lt {model : List Bool} {k n : Nat} (h : n < k) : stN ns ins model k n = nv ns ins model n := by simp [stN, h]
/-- The closure that reads a value. -/
theorem of_spec {x : Nat} {v : Value} {vs : List Bool} {e : Nat} (hx : cellH H ⟨x, 0, none⟩ = some v) (hv : BV H 4 v vs) (he : e / 2 < vs.length) (hb : vs.length ≤ 1000000) : CallF Try.prog 37 [iv e, hp x] H (fun r H' => H = H' ∧ r = .bool (eV (bt vs) e)) NoP := by
  obtain ⟨b, o, c, rfl, hc⟩ := hv.at he
  have e2 : (e : Int) / 2 = ((e / 2 : Nat) : Int) := by omega
  refine callF_of Try.func37 rfl Try.ntmps37 Try.results37 (by decide) rfl ?_
  by_cases ho : e % 2 = 1
  · have e3 : (e : Int) % 2 = 1 := by omega
    simp (disch := omega) only [go_sem, ↓cw_block, hx, e2, hc, e3]
    refine fin ⟨rfl, ?_⟩
    unfold eV
    rw [decide_eq_true ho]
    cases bt vs (e / 2) <;> simp
  · have e3 : (e : Int) % 2 = 0 := by omega
    simp (disch := omega) only [go_sem, ↓cw_block, hx, e2, hc, e3]
    refine fin ⟨rfl, ?_⟩
    unfold eV
    rw [decide_eq_false ho]
    cases bt vs (e / 2) <;> simp
theorem BR.frame {H' : Heap} {F : List Nat} {v : Value} {xs : List Bool} (h : BR H v xs) (hf : Fr F H H') (hd : ∀ b o l c, v = .slice (some ⟨b, o, none⟩) l c → b ∉ F) : BR H' v xs := by
  obtain ⟨a, c, rfl, h⟩ := h
  refine ⟨a, c, rfl, fun i hi => ?_⟩
  obtain ⟨b, o, rfl, hc⟩ := h i hi
  exact ⟨b, o, rfl, hf.cell' hc (hd b o _ _ rfl)⟩
abbrev ofF (x : Nat) : Value := .func (.func 37) #[] #[hp x]
/-- The values, and the box that the closure reads. -/
structure VB (H : Heap) (N : Nat) (f : Nat → Bool) (K : Heap) : Prop where
  fr : Fr [] H K
  bx : Blk K (H.size + 1) 41 [.slice (some ⟨H.size, 0, none⟩) N N]
  vb : Blk K H.size 4 ((rl N f).map Value.bool)
section
variable {N : Nat} {f f' : Nat → Bool} {K K' : Heap}
theorem VB.get (h : VB H N f K) {i : Nat} (hi : i < N) : cellH K ⟨H.size, i, none⟩ = some (.bool (f i)) := by
  rw [h.vb.cell i, List.getElem?_map, bt_lt (by rw [rl_len]; exact hi), rl_at hi]; rfl
theorem VB.box (h : VB H N f K) : cellH K ⟨H.size + 1, 0, none⟩ = some (.slice (some ⟨H.size, 0, none⟩) N N) := h.bx.cell 0
theorem VB.put (h : VB H N f K) {i : Nat} (hi : i < N) (hg : ∀ j, j < N → j ≠ i → f' j = f j) : wr K ⟨H.size, i, none⟩ (.bool (f' i)) = some (setH K ⟨H.size, i, none⟩ (.bool (f' i))) ∧ VB H N f' (setH K ⟨H.size, i, none⟩ (.bool (f' i))) := by
  refine ⟨h.vb.wr (by rw [List.length_map, rl_len]; exact hi) _, fr_new' h.fr (Fr.set (F := [H.size]) (by simp)) (by simp), h.bx.set_other (by simp), ?_⟩
  have := h.vb.set i (.bool (f' i))
  rw [← List.map_set, rl_set hi hg] at this
  exact this
theorem VB.congr (h : VB H N f K) (hg : ∀ j, j < N → f j = f' j) : VB H N f' K := ⟨h.fr, h.bx, rl_congr hg ▸ h.vb⟩
theorem VB.frame (h : VB H N f K) {F : List Nat} (hf : Fr F K K') (hd : ∀ b ∈ F, H.size + 2 ≤ b) : VB H N f K' :=
  ⟨fr_new' h.fr hf (fun b hb => by have := hd b hb; omega), hf.blk h.bx (fun e => by have := hd _ e; omega), hf.blk h.vb (fun e => by have := hd _ e; omega)⟩
theorem VB.of (h : VB H N f K) (hN : N ≤ 1000000) {e : Nat} (he : e / 2 < N) : CallF Try.prog 37 [iv e, hp (H.size + 1)] K (fun r H' => K = H' ∧ r = .bool (eV f e)) NoP := by
  have hv : BV K 4 (.slice (some ⟨H.size, 0, none⟩) N N) (rl N f) := ⟨.inr ⟨H.size, N, N, [], [], rfl, by simpa using h.vb, by simp [rl_len], by simp, by omega⟩⟩
  refine (of_spec h.box hv (by rw [rl_len]; exact he) (by rw [rl_len]; exact hN)).to ?_
  rintro _ _ ⟨rfl, rfl⟩
  refine ⟨rfl, ?_⟩
  unfold eV
  rw [rl_at he]
end
set_option maxHeartbeats 4000000 in
theorem eval_spec (h : Gr H g B ns ins) {mv : Value} {model : List Bool} (hm : BR H mv model) (hml : model.length ≤ 1000) {wb e : Nat} (hw : Blk H wb 3 [iv e]) (he : e < 2 * ns.length) :
    CallF Try.prog 19 [hp g, mv, .slice (some ⟨wb, 0, none⟩) 1 1] H (fun r H' => Fr [] H H' ∧ ∃ b o c, r = .slice (some ⟨b, o, none⟩) 1 c ∧ cellH H' ⟨b, o, none⟩ = some (.bool (eV (nv ns ins model) e))) NoP := by
  have hG := h
  have hgw := hG.w
  obtain ⟨mr, nV, nW, kn, h, hw', rfl⟩ := h
  have hw0 : cellH H ⟨wb, 0, none⟩ = some (iv e) := hw.cell 0
  have hd : Dn ns := hgw.2.2.1
  have ow := ownM_of he
  obtain ⟨ma, mc, rfl, hma⟩ := hm
  have e2 : (e : Int) / 2 = ((e / 2 : Nat) : Int) := by omega
  have et : ((e / 2 : Nat) : Int) + 1 = ((e / 2 + 1 : Nat) : Int) := by omega
  have emax : max (0 : Int) ((e / 2 : Nat) : Int) = ((e / 2 : Nat) : Int) := by omega
  obtain ⟨aw, cw, ew⟩ := h.vi.form
  rw [List.length_map] at ew
  subst ew
  obtain ⟨an, cn, ev⟩ := h.vn.form prc_len (by omega)
  subst ev
  have cap := vec_cap h.vn
  refine callF_of Try.func19 rfl Try.ntmps19 Try.results19 (by decide) rfl ?_
  simp (disch := omega) only [go_sem, ↓cw_block]
  refine loop_by (fun k ρ H1 => ∃ (i : Nat), k = 1 - i ∧ i ≤ 1 ∧ H = H1 ∧ (ρ.get 0 = hp g ∧ ρ.get 1 = .slice ma model.length mc ∧ ρ.get 2 = .slice (some ⟨wb, 0, none⟩) 1 1 ∧ ρ.get 19 = .slice (some ⟨wb, 0, none⟩) 1 1 ∧ ρ.get 20 = iv 1 ∧ ρ.get 21 = iv i ∧ ρ.get 7 = iv (if i = 0 then 0 else (e / 2 : Nat)) ∧ ρ.ds = [])) (k := 1) ?_ ?_
  · exact ⟨0, rfl, by omega, rfl, by simp (disch := omega) only [go_sem, ↓cw_block]; rfl⟩
  · rintro k ρ _ ⟨i, rfl, hi, rfl, r0, r1, r2, r19, r20, r21, r7, rd⟩
    by_cases hi0 : i = 0
    · subst hi0
      rw [if_pos rfl] at r7
      simp (disch := omega) only [go_sem, ↓cw_block, r0, r1, r2, r19, r20, r21, r7, rd, hw0]
      refine call_to (own_spec hG (by omega)) ?_
      rintro _ _ ⟨rfl, rfl⟩
      rw [ow]
      simp (disch := omega) only [go_sem, ↓cw_block, r0, r1, r2, r19, r20, r21, r7, rd, e2, emax]
      exact fin ⟨0, by omega, 1, rfl, by omega, rfl, by simp (disch := omega) only [go_sem, ↓cw_block, r0, r1, r2, r19, r20, r21, r7, rd]; rfl⟩
    · have : i = 1 := by omega
      subst this
      rw [if_neg (by omega)] at r7
      obtain ⟨H1, hH1⟩ : ∃ H1, H1 = H.push (.cells (List.replicate (e / 2 + 1) (.bool false)).toArray 4) := ⟨_, rfl⟩
      simp (disch := omega) only [go_sem, ↓cw_block, r0, r1, r2, r19, r20, r21, r7, rd, et]
      rw [← hH1]
      have s1 : H1.size = H.size + 1 := by rw [hH1]; simp
      obtain ⟨H2, hH2⟩ : ∃ H2, H2 = H1.push (.cells #[.slice (some ⟨H.size, 0, none⟩) (e / 2 + 1) (e / 2 + 1)] 41) := ⟨_, rfl⟩
      have w2 : ∀ z : Value, wr (H1.push (.cells #[z] 41)) ⟨H1.size, 0, none⟩ (.slice (some ⟨H.size, 0, none⟩) (e / 2 + 1) (e / 2 + 1)) = some H2 := by
        intro z
        rw [(Blk.new (vs := [z]) rfl : Blk (H1.push (.cells #[z] 41)) H1.size 41 [z]).wr (by simp), setH_push, hH2]; rfl
      have f2 : Fr [] H H2 := by rw [hH2, hH1]; exact Fr.push.push'
      have x2 : Blk H2 H1.size 41 [.slice (some ⟨H.size, 0, none⟩) (e / 2 + 1) (e / 2 + 1)] := by rw [hH2]; exact Blk.new rfl
      have v2 : Blk H2 H.size 4 (List.replicate (e / 2 + 1) (.bool false)) := by rw [hH2]; refine Blk.push ?_ _; rw [hH1]; exact Blk.new rfl
      rw [s1] at x2 w2
      have h2 := h.frame f2 (by simp)
      have d1 := h2.c1
      simp (disch := omega) only [go_sem, ↓cw_block, newPtr, w2, s1, r0, r1, r2, r19, r20, r21, r7, rd, d1]
      have hin : ∀ j (hj : j < ins.length), 0 < ins[j] ∧ ns[ins[j]]? = some (0, 0) := fun j hj => hgw.2.2.2.1 _ (List.getElem_mem hj)
      have hnod := hgw.2.2.2.2.1
      have hil := hgw.2.2.2.2.2
      have vb0 : VB H (e / 2 + 1) (stI ins model 0) H2 := ⟨f2, x2, by
        rw [rl_false] at v2
        have : rl (e / 2 + 1) (fun _ => false) = rl (e / 2 + 1) (stI ins model 0) := rl_congr (fun j _ => by simp [stI])
        rw [← this]; exact v2⟩
      clear v2 x2 w2 hH2
      refine loop_by (fun k ρ K => ∃ (i : Nat), k = ins.length - i ∧ i ≤ ins.length ∧ (ρ.get 0 = hp g ∧ ρ.get 1 = .slice ma model.length mc ∧ ρ.get 2 = .slice (some ⟨wb, 0, none⟩) 1 1 ∧ ρ.get 7 = iv (e / 2 : Nat) ∧ ρ.get 10 = hp (H.size + 1) ∧ ρ.get 11 = ofF (H.size + 1) ∧ ρ.get 39 = .slice aw ins.length cw ∧ ρ.get 40 = iv ins.length ∧ ρ.get 41 = iv i ∧ ρ.ds = []) ∧ VB H (e / 2 + 1) (stI ins model i) K) (k := ins.length) ?_ ?_
      · exact ⟨0, rfl, by omega, by simp (disch := omega) only [go_sem, ↓cw_block, r0, r1, r2, r7, rd, newPtr, s1], vb0⟩
      · clear r0 r1 r2 r19 r20 r21 r7 rd ρ
        rintro k ρ K ⟨i, rfl, hi, ⟨r0, r1, r2, r7, r10, r11, r39, r40, r41, rd⟩, vb⟩
        have hi1 : (i : Int) + 1 = ((i + 1 : Nat) : Int) := by omega
        by_cases hil' : i < ins.length
        · obtain ⟨bb, oo, cc, ee, hc⟩ := h.vi.at (i := i) (by simpa using hil')
          rw [nt_nat hil'] at hc
          simp only [Value.slice.injEq] at ee
          obtain ⟨rfl, _, rfl⟩ := ee
          have hc2 := vb.fr.cell' hc (by simp)
          have hlt := (List.getElem?_eq_some_iff.1 (hin i hil').2).1
          by_cases ht : ins[i] ≤ e / 2
          · by_cases hm : i < model.length
            · obtain ⟨b3, o3, rfl, hc3⟩ := hma i hm
              have hc3' := vb.fr.cell' hc3 (by simp)
              have bx := vb.box
              obtain ⟨w3, vb3⟩ := vb.put (i := ins[i]) (f' := stI ins model (i + 1)) (by omega) (fun j _ hj => stI_next hil' hj)
              rw [stI_self hnod hil'] at w3 vb3
              simp (disch := omega) only [go_sem, ↓cw_block, r0, r1, r2, r7, r10, r11, r39, r40, r41, rd, hc2]
              refine draw0 (lk [(0, true), (1, true), (2, true), (3, true), (4, true), (5, true), (6, true)] (.act 7 .fin .non)) T.mixed ?_
              simp (disch := omega) only [go_sem, ↓cw_block, r0, r1, r2, r7, r10, r11, r39, r40, r41, rd, hc3', bx, w3]
              exact fin ⟨ins.length - (i + 1), by omega, i + 1, rfl, by omega, by simp (disch := omega) only [go_sem, ↓cw_block, r0, r1, r2, r7, r10, r11, r39, r40, r41, rd, hi1], vb3⟩
            · simp (disch := omega) only [go_sem, ↓cw_block, r0, r1, r2, r7, r10, r11, r39, r40, r41, rd, hc2]
              refine fin ⟨ins.length - (i + 1), by omega, i + 1, rfl, by omega, by simp (disch := omega) only [go_sem, ↓cw_block, r0, r1, r2, r7, r10, r11, r39, r40, r41, rd, hi1], vb.congr (fun j _ => ?_)⟩
              by_cases hj : j = ins[i]
              · subst hj
                rw [stI_self hnod hil', stI_not hnod hil']
                unfold bt
                rw [List.getD_eq_getElem?_getD, List.getElem?_eq_none (by omega)]; rfl
              · exact (stI_next hil' hj).symm
          · simp (disch := omega) only [go_sem, ↓cw_block, r0, r1, r2, r7, r10, r11, r39, r40, r41, rd, hc2]
            exact fin ⟨ins.length - (i + 1), by omega, i + 1, rfl, by omega, by simp (disch := omega) only [go_sem, ↓cw_block, r0, r1, r2, r7, r10, r11, r39, r40, r41, rd, hi1], vb.congr (fun j hj => (stI_next hil' (by omega)).symm)⟩
        · have : i = ins.length := by omega
          subst this
          have h3 := h.frame vb.fr (by simp)
          have d0 := h3.c0
          have vb4 : VB H (e / 2 + 1) (stN ns ins model 0) K := vb.congr (fun j _ => by rw [stI_all, stN_zero])
          simp (disch := omega) only [go_sem, ↓cw_block, r0, r1, r2, r7, r10, r11, r39, r40, r41, rd, d0, et]
          refine loop_by (fun k ρ K => ∃ (i : Nat), k = (e / 2 + 1) - i ∧ i ≤ e / 2 + 1 ∧ (ρ.get 0 = hp g ∧ ρ.get 2 = .slice (some ⟨wb, 0, none⟩) 1 1 ∧ ρ.get 10 = hp (H.size + 1) ∧ ρ.get 11 = ofF (H.size + 1) ∧ ρ.get 69 = .slice an (e / 2 + 1) cn ∧ ρ.get 70 = iv (e / 2 + 1 : Nat) ∧ ρ.get 71 = iv i ∧ ρ.ds = []) ∧ VB H (e / 2 + 1) (stN ns ins model i) K) (k := e / 2 + 1) ?_ ?_
          · exact ⟨0, rfl, by omega, by simp (disch := omega) only [go_sem, ↓cw_block, r0, r2, r10, r11, rd], vb4⟩
          · clear r0 r1 r2 r7 r10 r11 r39 r40 r41 rd ρ vb vb4 h3 d0 K
            rintro k ρ K ⟨i, rfl, hi, ⟨r0, r2, r10, r11, r69, r70, r71, rd⟩, vb⟩
            have hi1 : (i : Int) + 1 = ((i + 1 : Nat) : Int) := by omega
            by_cases hil' : i < e / 2 + 1
            · have hin' : i < ns.length := by omega
              obtain ⟨p, hp⟩ : ∃ p, ns[i]? = some p := ⟨ns[i], by simp [hin']⟩
              have hpd : ns.getD i (0, 0) = p := by rw [List.getD_eq_getElem?_getD, hp]; rfl
              obtain ⟨b5, o5, c5, ev5, hc5⟩ := h.vn.rows prc_len (by omega) hp
              have k0 := vb.fr.cell' (hc5 0 (by omega)) (by simp)
              have k1 := vb.fr.cell' (hc5 1 (by omega)) (by simp)
              simp only [List.getElem?_cons_zero, List.getElem?_cons_succ, Nat.add_zero] at k0 k1
              simp only [Value.slice.injEq] at ev5
              obtain ⟨rfl, _, rfl⟩ := ev5
              simp (disch := omega) only [go_sem, ↓cw_block, r0, r2, r10, r11, r69, r70, r71, rd, k0, k1, cellsH]
              have st : storeA Try.prog (K.push (.cells [iv 0, iv 0].toArray 63)) 63 ⟨K.size, 0, none⟩ (.agg [iv p.1, iv p.2].toArray) = some (K.push (.cells [iv p.1, iv p.2].toArray 63)) := store_new (z := [iv 0, iv 0]) (vs := [iv p.1, iv p.2]) T.size63 rfl (by simp [oneC])
              obtain ⟨K1, hK1⟩ : ∃ K1, K1 = K.push (.cells [iv p.1, iv p.2].toArray 63) := ⟨_, rfl⟩
              rw [← hK1] at st
              have f3 : Fr [] K K1 := by rw [hK1]; exact Fr.push
              have vb1 := vb.frame f3 (by simp)
              have y : Blk K1 K.size 63 [iv p.1, iv p.2] := by rw [hK1]; exact Blk.new rfl
              have y0 : cellH K1 ⟨K.size, 0, none⟩ = some (iv p.1) := y.cell 0
              have y1 : cellH K1 ⟨K.size, 1, none⟩ = some (iv p.2) := y.cell 1
              by_cases hz : p = (0, 0)
              · have e0 : ((p.1 : Int) = 0 ∧ (p.2 : Int) = 0) := by rw [hz]; exact ⟨rfl, rfl⟩
                simp (disch := omega) only [go_sem, ↓cw_block, newPtr, st, y0, y1, cellsH, decide_eq_true e0, r0, r2, r10, r11, r69, r70, r71, rd]
                refine fin ⟨(e / 2 + 1) - (i + 1), by omega, i + 1, rfl, by omega, by simp (disch := omega) only [go_sem, ↓cw_block, r0, r2, r10, r11, r69, r70, r71, rd, hi1], vb1.congr (fun j _ => ?_)⟩
                by_cases hj : j = i
                · subst hj; rw [stN_self, nv_leaf (by rw [hpd, hz])]; simp [stN]
                · exact (stN_ne hj).symm
              · have hz' : ¬ ((p.1 : Int) = 0 ∧ (p.2 : Int) = 0) := by
                  rintro ⟨e1, e2⟩
                  exact hz (Prod.ext (by simpa using e1) (by simpa using e2))
                have hk := hd.kid i (by rw [hpd]; exact hz)
                rw [hpd] at hk
                have bx := vb1.box
                simp (disch := omega) only [go_sem, ↓cw_block, newPtr, st, y0, y1, cellsH, hz', decide_false, r0, r2, r10, r11, r69, r70, r71, rd]
                refine draw1 (lk [(0, false), (1, false), (2, true), (3, true), (4, true)] (.act 5 (lk [(6, true), (7, true), (8, true), (9, true)] (.act 10 (lk [(11, true), (12, true)] (.actd 13 .fin)) .non)) .non)) T.mixed [(⟨H.size + 1, 0, none⟩, .slice (some ⟨H.size, 0, none⟩) (e / 2 + 1) (e / 2 + 1))] (heldOK_one bx) ?_
                have ea : eV (stN ns ins model i) p.1 = eV (nv ns ins model) p.1 := by unfold eV; rw [stN_lt hk.1]
                have eb : eV (stN ns ins model i) p.2 = eV (nv ns ins model) p.2 := by unfold eV; rw [stN_lt hk.2]
                have en := nv_and (ins := ins) (model := model) hd (n := i) (by rw [hpd]; exact hz)
                rw [hpd, ← ea, ← eb] at en
                obtain ⟨w3, vb3⟩ := vb1.put (i := i) (f' := stN ns ins model (i + 1)) (by omega) (fun j _ hj => stN_ne hj)
                rw [stN_self, en] at w3 vb3
                simp (disch := omega) only [go_sem, ↓cw_block, newPtr, y0, y1, bx, r0, r2, r10, r11, r69, r70, r71, rd]
                refine call_to (vb1.of (by omega) (e := p.1) (by omega)) ?_
                rintro _ _ ⟨rfl, rfl⟩
                refine held_by (heldOK_one bx) ?_
                cases hA : eV (stN ns ins model i) p.1 with
                | false =>
                  rw [hA, Bool.false_and] at w3 vb3
                  simp (disch := omega) only [go_sem, ↓cw_block, newPtr, y0, y1, bx, r0, r2, r10, r11, r69, r70, r71, rd]
                  refine held_by (heldOK_one bx) ?_
                  simp (disch := omega) only [go_sem, ↓cw_block, newPtr, y0, y1, bx, r0, r2, r10, r11, r69, r70, r71, rd, w3]
                  exact fin ⟨(e / 2 + 1) - (i + 1), by omega, i + 1, rfl, by omega, by simp (disch := omega) only [go_sem, ↓cw_block, r0, r2, r10, r11, r69, r70, r71, rd, hi1], vb3⟩
                | true =>
                  rw [hA, Bool.true_and] at w3 vb3
                  simp (disch := omega) only [go_sem, ↓cw_block, newPtr, y0, y1, bx, r0, r2, r10, r11, r69, r70, r71, rd]
                  refine call_to (vb1.of (by omega) (e := p.2) (by omega)) ?_
                  rintro _ _ ⟨rfl, rfl⟩
                  refine held_by (heldOK_one bx) ?_
                  simp (disch := omega) only [go_sem, ↓cw_block, newPtr, y0, y1, bx, r0, r2, r10, r11, r69, r70, r71, rd, w3]
                  exact fin ⟨(e / 2 + 1) - (i + 1), by omega, i + 1, rfl, by omega, by simp (disch := omega) only [go_sem, ↓cw_block, r0, r2, r10, r11, r69, r70, r71, rd, hi1], vb3⟩
            · have : i = e / 2 + 1 := by omega
              subst this
              have hl : e / 2 < e / 2 + 1 := by omega
              obtain ⟨K1, hK1⟩ : ∃ K1, K1 = K.push (.cells (List.replicate 1 (.bool false)).toArray 4) := ⟨_, rfl⟩
              have f3 : Fr [] K K1 := by rw [hK1]; exact Fr.push
              have vb1 := vb.frame f3 (by simp)
              have y : Blk K1 K.size 4 [.bool false] := by rw [hK1]; exact Blk.new rfl
              have f4 := vb1.fr
              have hw4 := f4.cell' hw0 (by simp)
              simp (disch := omega) only [go_sem, ↓cw_block, r0, r2, r10, r11, r69, r70, r71, rd]
              refine loop_by (fun k ρ K => ∃ (i : Nat), k = 1 - i ∧ i ≤ 1 ∧ (ρ.get 0 = hp g ∧ ρ.get 11 = ofF (H.size + 1) ∧ ρ.get 96 = .slice (some ⟨wb, 0, none⟩) 1 1 ∧ ρ.get 97 = iv 1 ∧ ρ.get 98 = iv i ∧ ρ.ds = []) ∧ VB H (e / 2 + 1) (stN ns ins model (e / 2 + 1)) K ∧
                ∃ w, ρ.get 16 = w ∧ BV K 4 w (if i = 0 then [] else [eV (nv ns ins model) e]) ∧ ∀ b ∈ own w, H.size + 2 ≤ b) (k := 1) ?_ ?_
              · rw [← hK1]
                have hs : H.size + 2 ≤ K.size := by have := vb.bx.lt; omega
                exact ⟨0, rfl, by omega, by simp (disch := omega) only [go_sem, ↓cw_block, r0, r2, r10, r11, rd]; rfl, vb1, _, rfl, by simp (disch := omega) only [go_sem, ↓cw_block]; exact ⟨.inr ⟨K.size, 0, 1, [], [.bool false], rfl, by simpa using y, by simp, by simp, by omega⟩⟩, by simp (disch := omega) only [go_sem, ↓cw_block]; simpa [own] using hs⟩
              · clear r0 r2 r10 r11 r69 r70 r71 rd ρ
                rintro k ρ K2 ⟨i, rfl, hi, ⟨r0, r11, r96, r97, r98, rd⟩, vb2, w, r16, hw5, ho⟩
                by_cases hi0 : i = 0
                · subst hi0
                  rw [if_pos rfl] at hw5
                  have hG2 := hG.frame vb2.fr (by simp)
                  have hw2 := vb2.fr.cell' hw0 (by simp)
                  simp (disch := omega) only [go_sem, ↓cw_block, r0, r11, r96, r97, r98, rd, r16, hw2]
                  refine call_to (own_spec hG2 (by omega)) ?_
                  rintro _ _ ⟨rfl, rfl⟩
                  rw [ow]
                  simp (disch := omega) only [go_sem, ↓cw_block, r0, r11, r96, r97, r98, rd, r16, hw2]
                  refine call_to (vb2.of (by omega) (e := e) (by omega)) ?_
                  rintro _ _ ⟨rfl, rfl⟩
                  have ee : eV (stN ns ins model (e / 2 + 1)) e = eV (nv ns ins model) e := by unfold eV; rw [stN_lt hl]
                  rw [ee]
                  simp (disch := omega) only [go_sem, ↓cw_block, r0, r11, r96, r97, r98, rd, r16, hw2]
                  refine app_lit1 T.el41 rfl hw5 rfl (by simp) ?_
                  rintro w' H6 k1 k2 k3 _
                  simp (disch := omega) only [go_sem, ↓cw_block, r0, r11, r96, r97, r98, rd, r16, hw2]
                  refine fin ⟨0, by omega, 1, rfl, by omega, by simp (disch := omega) only [go_sem, ↓cw_block, r0, r11, r96, r97, r98, rd]; rfl, vb2.frame k2 ho, w', by simp (disch := omega) only [go_sem, ↓cw_block], k1, fun b hb => (k3 b hb).elim (ho b) (fun h => by have := vb2.bx.lt; omega)⟩
                · have : i = 1 := by omega
                  subst this
                  rw [if_neg (by omega)] at hw5
                  obtain ⟨b9, o9, c9, rfl, hc9⟩ := hw5.at (i := 0) (by simp)
                  simp (disch := omega) only [go_sem, ↓cw_block, r0, r11, r96, r97, r98, rd, r16, dsB_of]
                  exact fin ⟨vb2.fr, b9, o9, c9, rfl, hc9⟩
end
end Go.Proofs.Ytplcehlonfhooaa
