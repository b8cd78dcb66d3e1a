
/- Slices that grow: a general law of append. -/
import Derived.Test.YtndbdehpkiimjaaGreatHLApp
namespace Go.HL

theorem growBy_le {n : Nat} : ∀ (r c : Nat), c ≤ 2 * n + 200 → Builtin.growBy n r c ≤ 2 * n + 200 := by
  intro r
  induction r with
  | zero => intro c hc; exact hc
  | succ r ih =>
    intro c hc
    unfold Builtin.growBy
    split
    · exact hc
    · exact ih _ (by omega)
theorem nextcap_le {n c : Nat} (h : c < n) : Builtin.nextslicecap n c ≤ 2 * n + 200 := by
  unfold Builtin.nextslicecap
  split
  · omega
  · split
    · omega
    · exact growBy_le 4 c (by omega)

/-- The blocks that a slice lies in. -/
def own : Value → List Nat
  | .slice (some a) _ _ => [a.block]
  | _ => []
/-- A slice that may be written and grown, its cells: each element has z of them. -/
structure Vec (H : Heap) (e z : Nat) (v : Value) (vs : List Value) : Prop where
  ex : (v = .slice none 0 0 ∧ vs = []) ∨ ∃ b len cap pre rest, v = .slice (some ⟨b, pre.length, none⟩) len cap ∧ Blk H b e (pre ++ vs ++ rest) ∧ vs.length = len * z ∧ rest.length = (cap - len) * z ∧ len ≤ cap
theorem Vec.nil {H : Heap} {e z : Nat} : Vec H e z (.slice none 0 0) [] := ⟨.inl ⟨rfl, rfl⟩⟩
theorem Vec.lt {H : Heap} {e z : Nat} {v : Value} {vs : List Value} (h : Vec H e z v vs) : ∀ b ∈ own v, b < H.size := by
  rcases h.ex with ⟨rfl, _⟩ | ⟨b, len, cap, pre, rest, rfl, hb, _⟩
  · simp [own]
  · simp [own]; exact hb.lt
theorem Vec.frame {H H' : Heap} {e z : Nat} {v : Value} {vs : List Value} (h : Vec H e z v vs) {F : List Nat} (hf : Fr F H H') (hd : ∀ b ∈ own v, b ∉ F) : Vec H' e z v vs := by
  rcases h.ex with h1 | ⟨b, len, cap, pre, rest, rfl, hb, h2⟩
  · exact ⟨.inl h1⟩
  · exact ⟨.inr ⟨b, len, cap, pre, rest, rfl, hf.blk hb (hd b (by simp [own])), h2⟩⟩
theorem Vec.len {H : Heap} {e z : Nat} {v : Value} {vs : List Value} (h : Vec H e z v vs) : ∃ a len cap, v = .slice a len cap ∧ vs.length = len * z := by
  rcases h.ex with ⟨rfl, rfl⟩ | ⟨b, len, cap, pre, rest, rfl, _, h2, _⟩
  · exact ⟨_, _, _, rfl, by simp⟩
  · exact ⟨_, _, _, rfl, h2⟩
/-- Its cells, one by one. -/
theorem Vec.cell {H : Heap} {e z : Nat} {v : Value} {vs : List Value} (h : Vec H e z v vs) (hn : vs ≠ []) : ∃ b o len cap, v = .slice (some ⟨b, o, none⟩) len cap ∧ vs.length = len * z ∧ ∀ i, i < vs.length → cellH H ⟨b, o + i, none⟩ = vs[i]? := by
  rcases h.ex with ⟨rfl, rfl⟩ | ⟨b, len, cap, pre, rest, rfl, hb, h2, _⟩
  · simp at hn
  · refine ⟨b, pre.length, len, cap, rfl, h2, fun i hi => ?_⟩
    rw [hb.cell, List.append_assoc, List.getElem?_append_right (by omega), Nat.add_sub_cancel_left, List.getElem?_append_left hi]

theorem wrs_blk {e b : Nat} : ∀ (new pre old rest : List Value) (H : Heap), Blk H b e (pre ++ old ++ rest) → old.length = new.length →
    ∃ H', wrs H ⟨b, pre.length, none⟩ new 0 = some H' ∧ Blk H' b e (pre ++ new ++ rest) ∧ Fr [b] H H' := by
  have key : ∀ (new pre old rest done : List Value) (H : Heap), Blk H b e (pre ++ (done ++ (old ++ rest))) → old.length = new.length →
      ∃ H', wrs H ⟨b, pre.length, none⟩ new done.length = some H' ∧ Blk H' b e (pre ++ (done ++ (new ++ rest))) ∧ Fr [b] H H' := by
    intro new
    induction new with
    | nil => intro pre old rest done H hb hl; have : old = [] := by cases old <;> simp_all
             subst this; exact ⟨H, rfl, hb, Fr.refl _ _⟩
    | cons v new ih =>
      intro pre old rest done H hb hl
      cases old with
      | nil => simp at hl
      | cons u old =>
        have hw := hb.wr (i := pre.length + done.length) (by simp) v
        have hs := hb.set (pre.length + done.length) v
        have e1 : (pre ++ (done ++ (u :: old ++ rest))).set (pre.length + done.length) v = pre ++ ((done ++ [v]) ++ (old ++ rest)) := by
          rw [List.set_append_right _ _ (by omega), Nat.add_sub_cancel_left, List.set_append_right _ _ (by omega)]
          simp
        rw [e1] at hs
        obtain ⟨H', h1, h2, h3⟩ := ih pre old rest (done ++ [v]) _ hs (by simpa using hl)
        refine ⟨H', ?_, by simpa using h2, (Fr.set (by simp)).trans h3⟩
        simp only [wrs]
        rw [addr_add, hw, Option.bind_some]
        simpa using h1
  intro new pre old rest H hb hl
  have := key new pre old rest [] H (by simpa [List.append_assoc] using hb) hl
  simpa [List.append_assoc] using this

theorem zeroCells_size {z : Array Value} {n : Nat} : (Builtin.zeroCells z n).size = n * z.size := by simp [Builtin.zeroCells]

/-- append: what it answers is a slice with the new cells behind; it lies where the old one lay, or in a block of its own. -/
theorem app_vec {P : Program} {H : Heap} {t xt e z bytes n : Nat} {zero s x : Value} {vs new : List Value} {d : TypeDesc} {k : Value → Heap → Prop} (hT : ElT P t e z bytes zero) (hz : zero.cells.size = z) (hv : Vec H e z s vs)
    (hx : lenS x = some n) (hsrc : srcCells H z n x = some new) (hu : P.underlying xt = some d) (hnk : ∀ kk, d ≠ .int kk) (hone : ∀ u ∈ new, oneC u = true) (hnew : new.length = n * z)
    (hlen : ∀ a l c, s = .slice a l c → (2 * (l + n) + 200) * (bytes + 1) ≤ 281474976710656)
    (hk : ∀ v' H', Vec H' e z v' (vs ++ new) → Fr (own s) H H' → (∀ b ∈ own v', b ∈ own s ∨ H.size ≤ b) → (∀ a l c, s = .slice a l c → ∃ a' c', v' = .slice a' (l + n) c') → k v' H') :
    @appB P t xt s x ⟨H⟩ ⟨k⟩ := by
  show appW P H t xt _ _ k
  have fresh : ∀ a l c old, s = .slice a l c → c < l + n → srcCells H z l s = some old → old = vs → appW P H t xt s x k := by
    intro a l c old hs hc hold ho
    subst ho
    have hl := hlen a l c hs
    have hl2 : 2 * (l + n) + 200 ≤ 281474976710656 := Nat.le_trans (Nat.le_mul_of_pos_right _ (by omega)) hl
    subst hs
    unfold appW
    simp only [someW_iff]
    refine ⟨e, hT.elem, z, hT.size, bytes, hT.bytes, zero, hT.zero, n, hx, new, hsrc, d, hu, hnk, ?_⟩
    rw [if_neg (by omega)]
    have h3 := nextcap_le hc
    refine ⟨?_, by omega, fun _ => by omega, old, hold, ?_⟩
    · have : Builtin.nextslicecap (l + n) c * bytes ≤ (2 * (l + n) + 200) * bytes := Nat.mul_le_mul_right _ h3
      have h4 : (2 * (l + n) + 200) * bytes ≤ (2 * (l + n) + 200) * (bytes + 1) := Nat.mul_le_mul_left _ (by omega)
      omega
    · intro newCap hc1 _
      have hvl : old.length = l * z := by
        obtain ⟨a', l', c', he, hl'⟩ := hv.len
        simp only [Value.slice.injEq] at he
        rw [he.2.1]; exact hl'
      refine hk _ _ ⟨.inr ⟨H.size, l + n, newCap, [], (Builtin.zeroCells zero.cells (newCap - (l + n))).toList, rfl, ?_, by simp [hvl, hnew, Nat.add_mul], by simp [zeroCells_size, hz], hc1⟩⟩ Fr.push ?_ ?_
      · refine Blk.new ?_
        apply Array.ext'
        simp
      · intro b hb
        simp [own] at hb
        exact .inr (by omega)
      · intro a' l' c' he
        simp only [Value.slice.injEq] at he
        obtain ⟨_, rfl, _⟩ := he
        exact ⟨_, _, rfl⟩
  rcases hv.ex with ⟨rfl, rfl⟩ | ⟨b, len, cap, pre, rest, rfl, hb, hl, hr, hle⟩
  · by_cases hn : n = 0
    · subst hn
      have hn0 : new = [] := by cases new <;> simp_all
      subst hn0
      unfold appW
      simp only [someW_iff]
      refine ⟨e, hT.elem, z, hT.size, bytes, hT.bytes, zero, hT.zero, 0, hx, [], hsrc, d, hu, hnk, ?_⟩
      rw [if_pos (by omega)]
      refine hk _ _ Vec.nil (Fr.refl _ _) (by simp [own]) ?_
      intro a l c he
      simp only [Value.slice.injEq] at he
      obtain ⟨_, rfl, _⟩ := he
      exact ⟨_, _, rfl⟩
    · exact fresh none 0 0 [] rfl (by omega) rfl rfl
  · by_cases hfit : len + n ≤ cap
    · unfold appW
      simp only [someW_iff]
      refine ⟨e, hT.elem, z, hT.size, bytes, hT.bytes, zero, hT.zero, n, hx, new, hsrc, d, hu, hnk, ?_⟩
      rw [if_pos hfit]
      have h1 : n * z ≤ rest.length := by rw [hr]; exact Nat.mul_le_mul_right _ (by omega)
      have hb' : Blk H b e ((pre ++ vs) ++ rest.take (n * z) ++ rest.drop (n * z)) := by
        rw [List.append_assoc, List.take_append_drop]; exact hb
      obtain ⟨H', hw, hb2, hf⟩ := wrs_blk new (pre ++ vs) _ _ H hb' (by simp [hnew, h1])
      refine ⟨H', ?_, ?_⟩
      · rw [storeCells_wrs _ _ _ hone, addr_add, ← hl]
        rw [List.length_append] at hw
        exact hw
      · refine hk _ _ ⟨.inr ⟨b, len + n, cap, pre, rest.drop (n * z), rfl, ?_, by simp [hl, hnew, Nat.add_mul], ?_, hfit⟩⟩ (by simpa [own] using hf) (by simp [own]) ?_
        · simpa [List.append_assoc] using hb2
        · simp only [List.length_drop, hr]
          rw [← Nat.sub_mul]
          congr 1
          omega
        · intro a l c he
          simp only [Value.slice.injEq] at he
          obtain ⟨_, rfl, _⟩ := he
          exact ⟨_, _, rfl⟩
    · refine fresh _ len cap vs rfl (by omega) ?_ rfl
      show cellsH (cellH H) ⟨b, pre.length, none⟩ 0 (len * z) = some vs
      rw [← hl]
      refine cellsH_at vs pre.length 0 ?_
      intro j hj
      rw [hb.cell, Nat.add_zero, List.append_assoc, List.getElem?_append_right (by omega), Nat.add_sub_cancel_left, List.getElem?_append_left hj, List.getElem?_eq_getElem hj]

/-- append of one element of one cell, out of a block that has just been made. -/
theorem app_one {P : Program} {H : Heap} {t e bytes : Nat} {zero s v : Value} {vs : List Value} {xb : Nat} {k : Value → Heap → Prop} (hT : ElT P t e 1 bytes zero) (hz : zero.cells.size = 1) (hv : Vec H e 1 s vs)
    (hx : cellH H ⟨xb, 0, none⟩ = some v) (h1 : oneC v = true) (hlen : (2 * (vs.length + 1) + 200) * (bytes + 1) ≤ 281474976710656)
    (hk : ∀ v' H', Vec H' e 1 v' (vs ++ [v]) → Fr (own s) H H' → (∀ b ∈ own v', b ∈ own s ∨ H.size ≤ b) → (∃ a' c', v' = .slice a' (vs.length + 1) c') → k v' H') :
    @appB P t t s (.slice (some ⟨xb, 0, none⟩) 1 1) ⟨H⟩ ⟨k⟩ := by
  obtain ⟨a, len, cap, rfl, hl⟩ := hv.len
  rw [Nat.mul_one] at hl
  refine app_vec (n := 1) (new := [v]) hT hz hv rfl ?_ hT.under (by simp) (by simp [h1]) rfl ?_ ?_
  · show cellsH (cellH H) ⟨xb, 0, none⟩ 0 1 = some [v]
    have := cellsH_at (c := cellH H) (b := xb) [v] 0 0 (by intro j hj; simp at hj; subst hj; simpa using hx)
    simpa using this
  · intro a' l c he
    simp only [Value.slice.injEq] at he
    obtain ⟨_, rfl, _⟩ := he
    rw [← hl]; exact hlen
  · intro v' H' g1 g2 g3 g4
    obtain ⟨a', c', rfl⟩ := g4 _ _ _ rfl
    exact hk _ _ g1 g2 g3 ⟨a', c', by rw [hl]⟩

/-- append of the elements of a literal. -/
theorem app_lit {P : Program} {H : Heap} {t e z bytes n : Nat} {zero s : Value} {vs : List Value} {new : List Value} {k : Value → Heap → Prop} (hT : ElT P t e z bytes zero) (hz : zero.cells.size = z) (hv : Vec H e z s vs)
    (hone : ∀ u ∈ new, oneC u = true) (hnew : new.length = n * z) (hlen : ∀ a l c, s = .slice a l c → (2 * (l + n) + 200) * (bytes + 1) ≤ 281474976710656)
    (hk : ∀ v' H', Vec H' e z v' (vs ++ new) → Fr (own s) H H' → (∀ b ∈ own v', b ∈ own s ∨ H.size ≤ b) → (∀ a l c, s = .slice a l c → ∃ a' c', v' = .slice a' (l + n) c') → k v' H') :
    @appB P t t s (.slice (some ⟨H.size, 0, none⟩) n n) ⟨H.push (.cells new.toArray e)⟩ ⟨k⟩ := by
  have hb : Blk (H.push (.cells new.toArray e)) H.size e new := Blk.new rfl
  refine app_vec (n := n) (new := new) hT hz (hv.frame (F := []) Fr.push (by simp)) rfl ?_ hT.under (by simp) hone hnew hlen ?_
  · show cellsH (cellH _) ⟨H.size, 0, none⟩ 0 (n * z) = some new
    rw [← hnew]
    refine cellsH_at new 0 0 ?_
    intro j hj
    rw [hb.cell]; simp [hj]
  · intro v' H' g1 g2 g3 g4
    refine hk v' H' g1 ⟨Nat.le_trans (by simp) g2.size, fun b hb' hF => ?_⟩ (fun b hb' => (g3 b hb').imp id (fun h => Nat.le_trans (by simp) h)) g4
    rw [g2.same b (by simp; omega) hF, Array.getElem?_push]
    simp [Nat.ne_of_lt hb']
theorem app_lit1 {P : Program} {H : Heap} {t e bytes : Nat} {zero s v : Value} {vs : List Value} {k : Value → Heap → Prop} (hT : ElT P t e 1 bytes zero) (hz : zero.cells.size = 1) (hv : Vec H e 1 s vs)
    (h1 : oneC v = true) (hlen : (2 * (vs.length + 1) + 200) * (bytes + 1) ≤ 281474976710656)
    (hk : ∀ v' H', Vec H' e 1 v' (vs ++ [v]) → Fr (own s) H H' → (∀ b ∈ own v', b ∈ own s ∨ H.size ≤ b) → (∃ a' c', v' = .slice a' (vs.length + 1) c') → k v' H') :
    @appB P t t s (.slice (some ⟨H.size, 0, none⟩) 1 1) ⟨H.push (.cells #[v] e)⟩ ⟨k⟩ := by
  obtain ⟨a, len, cap, rfl, hl⟩ := hv.len
  rw [Nat.mul_one] at hl
  refine app_lit (n := 1) (new := [v]) hT hz hv (by simp [h1]) rfl ?_ ?_
  · intro a' l c he
    simp only [Value.slice.injEq] at he
    obtain ⟨_, rfl, _⟩ := he
    rw [← hl]; exact hlen
  · intro v' H' g1 g2 g3 g4
    obtain ⟨a', c', rfl⟩ := g4 _ _ _ rfl
    exact hk _ _ g1 g2 g3 ⟨a', c', by rw [hl]⟩

/-! ### Slices of numbers -/
abbrev IV (H : Heap) (e : Nat) (v : Value) (xs : List Int) : Prop := Vec H e 1 v (xs.map (Value.int .i64))
theorem IV.form {H : Heap} {e : Nat} {v : Value} {xs : List Int} (h : IV H e v xs) : ∃ a cap, v = .slice a xs.length cap := by
  obtain ⟨a, len, cap, rfl, hl⟩ := h.len
  simp at hl; subst hl
  exact ⟨a, cap, rfl⟩
theorem IV.at {H : Heap} {e : Nat} {v : Value} {xs : List Int} (h : IV H e v xs) {i : Nat} (hi : i < xs.length) : ∃ b o cap, v = .slice (some ⟨b, o, none⟩) xs.length cap ∧ cellH H ⟨b, o + i, none⟩ = some (.int .i64 (nt xs i)) := by
  obtain ⟨b, o, len, cap, rfl, hl, hc⟩ := h.cell (by intro e; rw [List.map_eq_nil_iff] at e; subst e; simp at hi)
  simp at hl; subst hl
  refine ⟨b, o, cap, rfl, ?_⟩
  rw [hc i (by simpa using hi), List.getElem?_map, nt_lt hi]; rfl
theorem nt_append_left {xs ys : List Int} {i : Nat} (h : i < xs.length) : nt (xs ++ ys) i = nt xs i := by
  unfold nt; simp [List.getElem?_append_left h]
theorem nt_append_right {xs : List Int} {y : Int} : nt (xs ++ [y]) xs.length = y := by
  unfold nt; simp

/-- Writing one cell of a slice whose elements have one. -/
theorem Vec.put1 {H : Heap} {e : Nat} {v : Value} {vs : List Value} (h : Vec H e 1 v vs) {i : Nat} (hi : i < vs.length) (u : Value) :
    ∃ b o cap, v = .slice (some ⟨b, o, none⟩) vs.length cap ∧ wr H ⟨b, o + i, none⟩ u = some (setH H ⟨b, o + i, none⟩ u) ∧ Vec (setH H ⟨b, o + i, none⟩ u) e 1 v (vs.set i u) ∧ cellH H ⟨b, o + i, none⟩ = vs[i]? := by
  rcases h.ex with ⟨rfl, rfl⟩ | ⟨b, len, cap, pre, rest, rfl, hb, h2, h3, h4⟩
  · simp at hi
  · rw [Nat.mul_one] at h2
    subst h2
    refine ⟨b, pre.length, cap, rfl, hb.wr (by simp; omega) u, ⟨.inr ⟨b, vs.length, cap, pre, rest, rfl, ?_, by simp, h3, h4⟩⟩, ?_⟩
    · have := hb.set (pre.length + i) u
      rwa [List.append_assoc, List.set_append_right _ _ (by omega), Nat.add_sub_cancel_left, List.set_append_left _ _ hi, ← List.append_assoc] at this
    · rw [hb.cell, List.append_assoc, List.getElem?_append_right (by omega), Nat.add_sub_cancel_left, List.getElem?_append_left hi]
theorem IV.put {H : Heap} {e : Nat} {v : Value} {xs : List Int} (h : IV H e v xs) {i : Nat} (hi : i < xs.length) (u : Int) :
    ∃ b o cap, v = .slice (some ⟨b, o, none⟩) xs.length cap ∧ wr H ⟨b, o + i, none⟩ (.int .i64 u) = some (setH H ⟨b, o + i, none⟩ (.int .i64 u)) ∧ IV (setH H ⟨b, o + i, none⟩ (.int .i64 u)) e v (xs.set i u) ∧ cellH H ⟨b, o + i, none⟩ = some (.int .i64 (nt xs i)) := by
  obtain ⟨b, o, cap, h1, h2, h3, h4⟩ := Vec.put1 h (i := i) (by simpa using hi) (.int .i64 u)
  refine ⟨b, o, cap, by simpa using h1, h2, ?_, ?_⟩
  · unfold IV; rw [List.map_set]; exact h3
  · rw [h4, List.getElem?_map, nt_lt hi]; rfl
/-- Slices of bools. -/
def bt (xs : List Bool) (i : Nat) : Bool := xs.getD i false
theorem bt_lt {xs : List Bool} {i : Nat} (h : i < xs.length) : xs[i]? = some (bt xs i) := by
  unfold bt; rw [List.getD_eq_getElem?_getD, List.getElem?_eq_getElem h]; rfl
theorem bt_set_eq {xs : List Bool} {i : Nat} {v : Bool} (h : i < xs.length) : bt (xs.set i v) i = v := by
  unfold bt; simp [h]
theorem bt_set_ne {xs : List Bool} {i j : Nat} {v : Bool} (h : i ≠ j) : bt (xs.set i v) j = bt xs j := by
  unfold bt; simp [List.getElem?_set_ne h]
abbrev BV (H : Heap) (e : Nat) (v : Value) (xs : List Bool) : Prop := Vec H e 1 v (xs.map Value.bool)
theorem BV.form {H : Heap} {e : Nat} {v : Value} {xs : List Bool} (h : BV H e v xs) : ∃ a cap, v = .slice a xs.length cap := by
  obtain ⟨a, len, cap, rfl, hl⟩ := h.len
  simp at hl; subst hl
  exact ⟨a, cap, rfl⟩
theorem BV.at {H : Heap} {e : Nat} {v : Value} {xs : List Bool} (h : BV H e v xs) {i : Nat} (hi : i < xs.length) : ∃ b o cap, v = .slice (some ⟨b, o, none⟩) xs.length cap ∧ cellH H ⟨b, o + i, none⟩ = some (.bool (bt xs i)) := by
  obtain ⟨b, o, len, cap, rfl, hl, hc⟩ := h.cell (by intro e; rw [List.map_eq_nil_iff] at e; subst e; simp at hi)
  simp at hl; subst hl
  refine ⟨b, o, cap, rfl, ?_⟩
  rw [hc i (by simpa using hi), List.getElem?_map, bt_lt hi]; rfl
theorem BV.put {H : Heap} {e : Nat} {v : Value} {xs : List Bool} (h : BV H e v xs) {i : Nat} (hi : i < xs.length) (u : Bool) :
    ∃ b o cap, v = .slice (some ⟨b, o, none⟩) xs.length cap ∧ wr H ⟨b, o + i, none⟩ (.bool u) = some (setH H ⟨b, o + i, none⟩ (.bool u)) ∧ BV (setH H ⟨b, o + i, none⟩ (.bool u)) e v (xs.set i u) ∧ cellH H ⟨b, o + i, none⟩ = some (.bool (bt xs i)) := by
  obtain ⟨b, o, cap, h1, h2, h3, h4⟩ := Vec.put1 h (i := i) (by simpa using hi) (.bool u)
  refine ⟨b, o, cap, by simpa using h1, h2, ?_, ?_⟩
  · unfold BV; rw [List.map_set]; exact h3
  · rw [h4, List.getElem?_map, bt_lt hi]; rfl

/-! ### Structs and arrays, part by part, as rules -/
theorem fill_eq {place : Nat → Option (Nat × Nat)} : ∀ (parts : List (Nat × Value)) (cells : List Value), Instr.fill place cells.toArray parts = (fillL place cells parts).map List.toArray := by
  intro parts
  induction parts with
  | nil => intro cells; rfl
  | cons x rest ih =>
    intro cells
    obtain ⟨i, v⟩ := x
    cases hp : place i with
    | none => simp [Instr.fill, fillL, hp]
    | some p =>
      obtain ⟨off, size⟩ := p
      have e : v.cells.zipIdx.foldl (fun cs x => cs.setIfInBounds (off + x.2) x.1) cells.toArray = (setR cells off v.cells.toList).toArray := by
        rw [← Array.foldl_toList, Array.toList_zipIdx]
        exact setR_fold v.cells.toList cells off 0
      simp only [Instr.fill, fillL, hp, Option.bind_some, chk]
      by_cases hc : v.cells.size = size ∧ off + size ≤ cells.length
      · rw [if_pos hc, if_neg (by simp [hc.1]; omega)]
        rw [show (v.cells.zipIdx.foldl (fun cs x => match x with | (c, j) => cs.setIfInBounds (off + j) c) cells.toArray) = (setR cells off v.cells.toList).toArray from e]
        exact ih _
      · rw [if_neg hc, if_pos (by
          simp only [ne_eq, List.size_toArray, gt_iff_lt, Bool.or_eq_true, decide_eq_true_eq]
          rcases Nat.lt_or_ge cells.length (off + v.cells.size) with h | h
          · exact .inr h
          · left; intro e2; exact hc ⟨e2, by omega⟩)]
        rfl
@[go_sem] theorem buildV_go {P : Program} {t : TypeId} {parts : List (Nat × Value)} : buildV P t parts = match placesT P t with
  | some ps => (zeroT P t).bind fun z => (fillL (ps[·]?) z.cells.toList parts).map fun l => .agg l.toArray
  | none => (arrS P t).bind fun e => (zeroT P t).bind fun z => (fillL (fun i => some (i * e.2, e.2)) z.cells.toList parts).map fun l => .agg l.toArray := by
  unfold buildV
  have key : ∀ (pl : Nat → Option (Nat × Nat)) (z : Value), (Instr.fill pl z.cells parts).map Value.agg = (fillL pl z.cells.toList parts).map fun l => .agg l.toArray := by
    intro pl z
    have := fill_eq (place := pl) parts z.cells.toList
    simp only [Array.toArray_toList] at this
    rw [this, Option.map_map]
    rfl
  simp only [key]
  cases placesT P t <;> rfl
@[go_sem] theorem fillL_nil {pl : Nat → Option (Nat × Nat)} {cells : List Value} : fillL pl cells [] = some cells := (rfl)
@[go_sem] theorem fillL_cons {pl : Nat → Option (Nat × Nat)} {cells : List Value} {i : Nat} {v : Value} {r : List (Nat × Value)} :
    fillL pl cells ((i, v) :: r) = (pl i).bind fun p => chk (v.cells.size = p.2 ∧ p.1 + p.2 ≤ cells.length) (fillL pl (setR cells p.1 v.cells.toList) r) := (rfl)
@[go_sem] theorem setR_nil {cells : List Value} {o : Nat} : setR cells o [] = cells := (rfl)
@[go_sem] theorem setR_cons {cells vs : List Value} {o : Nat} {v : Value} : setR cells o (v :: vs) = setR (cells.set o v) (o + 1) vs := (rfl)
@[go_sem] theorem lset_zero {l : List Value} {u v : Value} : (u :: l).set 0 v = v :: l := (rfl)
@[go_sem] theorem lset_succ {l : List Value} {u v : Value} {i : Nat} : (u :: l).set (i + 1) v = u :: l.set i v := (rfl)
@[go_sem] theorem toL_toA {l : List Value} : l.toArray.toList = l := (rfl)
@[go_sem] theorem size_toA {l : List Value} : l.toArray.size = l.length := (rfl)
@[go_sem] theorem len_consV {l : List Value} {v : Value} : (v :: l).length = l.length + 1 := (rfl)
@[go_sem] theorem len_nilV : ([] : List Value).length = 0 := (rfl)
attribute [go_sem] Nat.reduceLeDiff and_true
end Go.HL
