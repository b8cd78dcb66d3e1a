
/- Closed runs: new memory: variables, slices, structs. -/
import Derived.Test.YtndbdehpkiimjaaGreatRunF
namespace Go.Run
open Go.HL
variable {σ : Nat → Value} {F : Nat → Option Obj} {φ : Phi} {A : AH} {H : Heap} {P : Program} {V : HV}
noncomputable section

/-! ### A list as a tree -/
def hdL (l : List AV) : AV := @List.rec AV (fun _ => AV) .u (fun v _ _ => v) l
def tlL (l : List AV) : List AV := @List.rec AV (fun _ => List AV) [] (fun _ l _ => l) l
def row16 (l : List AV) : N16 AV :=
  .mk (hdL l) (hdL (tlL l)) (hdL (tlL (tlL l))) (hdL (tlL (tlL (tlL l)))) (hdL (tlL (tlL (tlL (tlL l))))) (hdL (tlL (tlL (tlL (tlL (tlL l)))))) (hdL (tlL (tlL (tlL (tlL (tlL (tlL l)))))))
    (hdL (tlL (tlL (tlL (tlL (tlL (tlL (tlL l)))))))) (hdL (tlL (tlL (tlL (tlL (tlL (tlL (tlL (tlL l))))))))) (hdL (tlL (tlL (tlL (tlL (tlL (tlL (tlL (tlL (tlL l))))))))))
    (hdL (tlL (tlL (tlL (tlL (tlL (tlL (tlL (tlL (tlL (tlL l))))))))))) (hdL (tlL (tlL (tlL (tlL (tlL (tlL (tlL (tlL (tlL (tlL (tlL l))))))))))))
    (hdL (tlL (tlL (tlL (tlL (tlL (tlL (tlL (tlL (tlL (tlL (tlL (tlL l))))))))))))) (hdL (tlL (tlL (tlL (tlL (tlL (tlL (tlL (tlL (tlL (tlL (tlL (tlL (tlL l))))))))))))))
    (hdL (tlL (tlL (tlL (tlL (tlL (tlL (tlL (tlL (tlL (tlL (tlL (tlL (tlL (tlL l))))))))))))))) (hdL (tlL (tlL (tlL (tlL (tlL (tlL (tlL (tlL (tlL (tlL (tlL (tlL (tlL (tlL (tlL l))))))))))))))))
theorem row16_get (l : List AV) (n : Nat) (h : n < 16) : selN n (row16 l) = l.getD n .u := by
  have hd : ∀ l : List AV, hdL l = l.getD 0 .u := fun l => by cases l <;> rfl
  have tl : ∀ (l : List AV) (i : Nat), (tlL l).getD i .u = l.getD (i + 1) .u := fun l i => by cases l <;> simp [tlL]
  have : n = 0 ∨ n = 1 ∨ n = 2 ∨ n = 3 ∨ n = 4 ∨ n = 5 ∨ n = 6 ∨ n = 7 ∨ n = 8 ∨ n = 9 ∨ n = 10 ∨ n = 11 ∨ n = 12 ∨ n = 13 ∨ n = 14 ∨ n = 15 := by omega
  rcases this with rfl | rfl | rfl | rfl | rfl | rfl | rfl | rfl | rfl | rfl | rfl | rfl | rfl | rfl | rfl | rfl <;> (show hdL _ = _; simp only [hd, tl])
/-- The values of a list into a tree, from a place on. -/
def setL (l : List AV) (n : Nat) (t : CT) : CT := @List.rec AV (fun _ => Nat → CT → CT) (fun _ t => t) (fun v _ ih n t => ih (Nat.succ n) (t.set n v)) l n t
theorem setL_room : ∀ (l : List AV) (n : Nat) (t : CT), (setL l n t).room = t.room
  | [], _, _ => rfl
  | v :: l, n, t => by show (setL l (n + 1) (t.set n v)).room = _; rw [setL_room, CT.room_set]
theorem setL_get : ∀ (l : List AV) (n : Nat) (t : CT), n + l.length ≤ t.room → ∀ m, m < t.room → (setL l n t).get m = if n ≤ m ∧ m < n + l.length then l.getD (m - n) .u else t.get m
  | [], n, t, _, m, _ => by simp [setL]; intro h1 h2; omega
  | v :: l, n, t, h, m, hm => by
    show (setL l (n + 1) (t.set n v)).get m = _
    simp only [List.length_cons] at h
    rw [setL_get l (n + 1) (t.set n v) (by rw [CT.room_set]; omega) m (by rw [CT.room_set]; exact hm)]
    by_cases h1 : m = n
    · subst h1
      rw [if_neg (by omega), CT.get_set, if_pos (by simp)]
      simp
    · rw [CT.get_set' (by omega) hm h1]
      by_cases h2 : n + 1 ≤ m ∧ m < n + 1 + l.length
      · rw [if_pos h2, if_pos (by simp; omega)]
        rw [show m - n = (m - (n + 1)) + 1 by omega]
        simp
      · rw [if_neg h2, if_neg (by simp; omega)]
def ctL (l : List AV) : CT := @Bool.rec (fun _ => CT) (setL l 0 (CT.fill (lenL l) .u)) (.c1 (row16 l)) (Nat.ble (lenL l) 16)
theorem ctL_room (l : List AV) (h : l.length ≤ 65536) : l.length ≤ (ctL l).room := by
  unfold ctL
  rw [lenL_eq]
  cases hb : Nat.ble l.length 16 with
  | true => have := Nat.le_of_ble_eq_true hb; simpa [CT.room] using this
  | false => show _ ≤ (setL _ _ _).room; rw [setL_room]; exact CT.room_fill _ _ h
theorem ctL_get (l : List AV) (h : l.length ≤ 65536) (n : Nat) (hn : n < l.length) : (ctL l).get n = l.getD n .u := by
  have hr := ctL_room l h
  unfold ctL at hr ⊢
  rw [lenL_eq] at hr ⊢
  cases hb : Nat.ble l.length 16 with
  | true =>
    have := Nat.le_of_ble_eq_true hb
    show selN n (row16 l) = _
    exact row16_get l n (by omega)
  | false =>
    have hf := CT.room_fill l.length .u h
    show (setL l 0 (CT.fill l.length .u)).get n = _
    rw [setL_get l 0 _ (by omega) n (by omega), if_pos (by omega)]
    simp
theorem ctL_cells {l : List AV} {cs : Array Value} (h : l.length ≤ 65536) (hv : VRl σ φ l cs.toList) : l.length ≤ (ctL l).room ∧ l.length = cs.size ∧ ∀ o, o < l.length → ∃ w, cs[o]? = some w ∧ VR σ φ ((ctL l).get o) w := by
  refine ⟨ctL_room l h, by simpa using hv.length, fun o ho => ?_⟩
  rw [ctL_get l h o ho]
  obtain ⟨w, h1, h2⟩ := hv.get (j := o) (v := l.getD o .u) (by rw [List.getD_eq_getElem?_getD]; rw [List.getElem?_eq_getElem ho]; rfl)
  exact ⟨w, by simpa using h1, h2⟩

/-! ### Variables -/
/-- A block of known cells. -/
def newL (A : AH) (n : Nat) (t : CT) (k : Id → AH → Bool) : Bool := newB A (.c false n t) k
theorem newL_ok {n : Nat} {t : CT} {k : Id → AH → Bool} {cs : Array Value} {el : TypeId} (h : Rel σ F φ A H) (h1 : n ≤ t.room) (h2 : n ≤ cs.size) (h3 : ∀ o, o < n → ∃ w, cs[o]? = some w ∧ VR σ φ (t.get o) w) (hk : newL A n t k = true) :
    ∃ i A' φ', φ.le φ' ∧ Rel σ F φ' A' (H.push (.cells cs el)) ∧ φ' i = some ⟨H.size, 0, cs.size⟩ ∧ k i A' = true := by
  obtain ⟨j, hj, hk⟩ := newB_sound hk
  exact ⟨A.nx, _, _, h.le_put _, h.newCells (el := el) hj h1 h2 h3, if_pos rfl, hk⟩
def allA (A : AH) (l : List AV) (k : AV → AH → Bool) : Bool := ifB (Nat.ble (lenL l) 65536) (newL A (lenL l) (ctL l) fun i A => k (.p i 0) A) false
theorem allA_ok {l : List AV} {k : AV → AH → Bool} {cs : Array Value} {el : TypeId} (h : Rel σ F φ A H) (hv : VRl σ φ l cs.toList) (hk : allA A l k = true) :
    ∃ v A' φ', φ.le φ' ∧ Rel σ F φ' A' (H.push (.cells cs el)) ∧ VR σ φ' v (newPtr H) ∧ k v A' = true := by
  obtain ⟨h1, hk⟩ := ifB_and hk
  have h1 := Nat.le_of_ble_eq_true h1
  rw [lenL_eq] at h1 hk
  obtain ⟨g1, g2, g3⟩ := ctL_cells h1 hv
  obtain ⟨i, A', φ', a1, a2, a3, a4⟩ := newL_ok (el := el) h g1 (by omega) g3 hk
  exact ⟨.p i 0, A', φ', a1, a2, by simp only [VR]; exact ⟨_, a3, rfl⟩, a4⟩
/-- The cells of a value. -/
def cellsK (v : AV) (k : List AV → Bool) : Bool := v.on_a k (ifB (oneA v) (k [v]) false)
theorem cells_one {w : Value} (h : oneC w = true) : w.cells = #[w] := by cases w <;> first | rfl | cases h
theorem cellsK_sound {v : AV} {w : Value} {k : List AV → Bool} (hv : VR σ φ v w) (hk : cellsK v k = true) : ∃ l, VRl σ φ l w.cells.toList ∧ k l = true := by
  unfold cellsK at hk
  rcases AV.on_a_eq v k (ifB (oneA v) (k [v]) false) with ⟨l, rfl, e⟩ | e
  · rw [e] at hk
    simp only [VR] at hv
    obtain ⟨c, rfl, hc⟩ := hv
    exact ⟨l, hc, hk⟩
  · rw [e] at hk
    obtain ⟨h1, hk⟩ := ifB_and hk
    refine ⟨[v], ?_, hk⟩
    rw [cells_one (oneA_sound h1 hv)]
    simp only [VRl]
    exact ⟨w, [], rfl, hv, rfl⟩
def boxA (A : AH) (v : AV) (k : AV → AH → Bool) : Bool := cellsK v fun l => allA A l k
theorem boxA_ok {v : AV} {w : Value} {k : AV → AH → Bool} {el : TypeId} (h : Rel σ F φ A H) (hv : VR σ φ v w) (hk : boxA A v k = true) :
    ∃ v A' φ', φ.le φ' ∧ Rel σ F φ' A' (H.push (.cells w.cells el)) ∧ VR σ φ' v (newPtr H) ∧ k v A' = true := by
  obtain ⟨l, h1, hk⟩ := cellsK_sound hv hk
  exact allA_ok h h1 hk

/-! ### A store of a value of some cells -/
def stA (A : AH) (p v : AV) (n : Nat) (k : AH → Bool) : Bool := v.on_a (fun l => ifB (Nat.beq (lenL l) n) (stN A p l k) false) (ifB (Nat.beq n 1) (st A p v k) false)
theorem stA_ok {p v : AV} {w x : Value} {t n : Nat} {k : AH → Bool} (hs : sizeT P t = some n) (h : Rel σ F φ A H) (hp : VR σ φ p w) (hv : VR σ φ v x) (hk : stA A p v n k = true) :
    ∃ a A' H', w = .pointer (some a) ∧ storeA P H t a x = some H' ∧ Rel σ F φ A' H' ∧ k A' = true := by
  unfold stA at hk
  rcases AV.on_a_eq v (fun l => ifB (Nat.beq (lenL l) n) (stN A p l k) false) (ifB (Nat.beq n 1) (st A p v k) false) with ⟨l, rfl, e⟩ | e
  · rw [e] at hk
    obtain ⟨h1, hk⟩ := ifB_and hk
    have h1 := Nat.eq_of_beq_eq_true h1
    rw [lenL_eq] at h1
    simp only [VR] at hv
    obtain ⟨c, rfl, hc⟩ := hv
    obtain ⟨a, A', H', g1, g2, g3, g4⟩ := stN_sound h hp hc hk
    refine ⟨a, A', H', g1, ?_, g3, g4⟩
    simp only [storeA, hs]
    rw [if_pos (by show c.size = n; rw [← h1, hc.length]; simp)]
    exact g2
  · rw [e] at hk
    obtain ⟨h1, hk⟩ := ifB_and hk
    have h1 := Nat.eq_of_beq_eq_true h1
    subst h1
    obtain ⟨a, A', g1, g2, g3, g4, g5, g6⟩ := st_sound h hp hv hk
    refine ⟨a, A', _, g1, ?_, g5, g6⟩
    simp only [storeA, hs]
    rw [cells_one g2, if_pos (by rfl)]
    subst g1
    unfold st at hk
    obtain ⟨i, o, e', _, _, hw, _⟩ := on_p_sound (w := .pointer (some a)) (k := fun i o => (A.get i).on_c (fun ro len t => @Bool.rec (fun _ => Bool) (@Bool.rec (fun _ => Bool) false (@Bool.rec (fun _ => Bool) false (k (A.set i (.c false len (t.set o v)))) (Nat.blt o len)) (oneA v)) false ro) false) hp hk
    simp only [Value.pointer.injEq, Option.some.injEq] at hw
    subst hw
    simp only [storeCellsH, addr_add, Nat.add_zero]
    rw [if_pos ⟨g2, g3, g4⟩]

/-! ### Values put together -/
/-- Some values in the place of others, from a place on. -/
def ovr (new cells : List AV) : List AV := @List.rec AV (fun _ => List AV → List AV) (fun cells => cells) (fun v _ ih cells => v :: ih (tlL cells)) new cells
def putL (new : List AV) (off : Nat) (cells : List AV) : List AV := @Nat.rec (fun _ => List AV → List AV) (fun cells => ovr new cells) (fun _ ih cells => hdL cells :: ih (tlL cells)) off cells
theorem ovr_get : ∀ (new cells : List AV) (j : Nat), new.length ≤ cells.length → (ovr new cells)[j]? = if j < new.length then new[j]? else cells[j]?
  | [], cells, j, _ => by simp [ovr]
  | v :: new, [], j, h => by simp at h
  | v :: new, c :: cells, 0, h => by simp [ovr]
  | v :: new, c :: cells, j + 1, h => by
    show (ovr new cells)[j]? = _
    rw [ovr_get new cells j (by simpa using h)]
    simp
theorem putL_get : ∀ (off : Nat) (new cells : List AV) (j : Nat), off + new.length ≤ cells.length → (putL new off cells)[j]? = if off ≤ j ∧ j < off + new.length then new[j - off]? else cells[j]?
  | 0, new, cells, j, h => by
    show (ovr new cells)[j]? = _
    rw [ovr_get new cells j (by omega)]
    simp
  | off + 1, new, [], j, h => by simp at h
  | off + 1, new, c :: cells, 0, h => by simp [putL, hdL]
  | off + 1, new, c :: cells, j + 1, h => by
    show (putL new off cells)[j]? = _
    simp only [List.length_cons] at h
    rw [putL_get off new cells j (by omega)]
    by_cases h1 : off ≤ j ∧ j < off + new.length
    · rw [if_pos h1, if_pos (by omega)]
      congr 1; omega
    · rw [if_neg h1, if_neg (by omega)]
      simp
theorem putL_len (off : Nat) (new cells : List AV) (h : off + new.length ≤ cells.length) : (putL new off cells).length = cells.length := by
  apply Nat.le_antisymm
  · apply Nat.le_of_not_lt
    intro hh
    have := putL_get off new cells cells.length h
    rw [if_neg (by omega)] at this
    simp at this
    omega
  · apply Nat.le_of_not_lt
    intro hh
    have := putL_get off new cells (cells.length - 1) h
    rw [List.getElem?_eq_none (by omega)] at this
    by_cases h1 : off ≤ cells.length - 1 ∧ cells.length - 1 < off + new.length
    · rw [if_pos h1] at this
      simp at this
      omega
    · rw [if_neg h1] at this
      simp at this
      omega
theorem fold_set : ∀ (l : List Value) (m off : Nat) (cells : Array Value) (j : Nat), off + m + l.length ≤ cells.size →
    ((l.zipIdx m).foldl (fun cs (x : Value × Nat) => cs.setIfInBounds (off + x.2) x.1) cells).size = cells.size ∧
    ((l.zipIdx m).foldl (fun cs (x : Value × Nat) => cs.setIfInBounds (off + x.2) x.1) cells)[j]? = if off + m ≤ j ∧ j < off + m + l.length then l[j - (off + m)]? else cells[j]?
  | [], m, off, cells, j, h => by simp; omega
  | v :: l, m, off, cells, j, h => by
    simp only [List.zipIdx_cons, List.foldl_cons, List.length_cons] at h ⊢
    obtain ⟨h1, h2⟩ := fold_set l (m + 1) off (cells.setIfInBounds (off + m) v) j (by simp; omega)
    refine ⟨by rw [h1]; simp, ?_⟩
    rw [h2]
    by_cases e : j = off + m
    · subst e
      rw [if_neg (by omega), if_pos (by omega), Array.getElem?_setIfInBounds]
      simp
      omega
    · have e' : (cells.setIfInBounds (off + m) v)[j]? = cells[j]? := by rw [Array.getElem?_setIfInBounds, if_neg (fun x => e x.symm)]
      rw [e']
      by_cases g : off + (m + 1) ≤ j ∧ j < off + (m + 1) + l.length
      · rw [if_pos g, if_pos (by omega), show j - (off + m) = (j - (off + (m + 1))) + 1 by omega]
        simp
      · rw [if_neg g, if_neg (by omega)]
/-- Room for so many cells at a place. -/
def off_ok (a b c : Nat) : Prop := a + b ≤ c
/-- Parts at places: each with the cells that it takes. -/
def bld (parts : List (Nat × Nat × AV)) (cells : List AV) (k : List AV → Bool) : Bool :=
  @List.rec (Nat × Nat × AV) (fun _ => List AV → Bool) (fun cells => k cells) (fun p _ ih cells => cellsK p.2.2 fun new => ifB (Nat.beq (lenL new) p.2.1) (ifB (Nat.ble (Nat.add p.1 p.2.1) (lenL cells)) (ih (putL new p.1 cells)) false) false) parts cells
theorem bld_ok {place : Nat → Option (Nat × Nat)} {k : List AV → Bool} : ∀ (parts : List (Nat × Nat × AV)) (ps : List (Nat × Value)) (cells : List AV) (cs : Array Value),
    parts.length = ps.length → (∀ (j : Nat) p q, parts[j]? = some p → ps[j]? = some q → place q.1 = some (p.1, p.2.1) ∧ VR σ φ p.2.2 q.2) → VRl σ φ cells cs.toList → bld parts cells k = true →
    ∃ cs' l, Instr.fill place cs ps = some cs' ∧ VRl σ φ l cs'.toList ∧ k l = true
  | [], [], cells, cs, _, _, hv, hk => ⟨cs, cells, rfl, hv, hk⟩
  | [], _ :: _, cells, cs, hl, _, _, _ => by simp at hl
  | _ :: _, [], cells, cs, hl, _, _, _ => by simp at hl
  | p :: parts, ⟨qi, qv⟩ :: ps, cells, cs, hl, hp, hv, hk => by
    obtain ⟨h1, h2⟩ := hp 0 p ⟨qi, qv⟩ rfl rfl
    obtain ⟨new, h3, hk⟩ := cellsK_sound h2 hk
    obtain ⟨h4, hk⟩ := ifB_and hk
    obtain ⟨h5, hk⟩ := ifB_and hk
    have h4 := Nat.eq_of_beq_eq_true h4
    have h5 := Nat.le_of_ble_eq_true h5
    rw [lenL_eq] at h4 h5
    have h6 := h3.length
    have h7 := hv.length
    simp only [Array.length_toList] at h6 h7
    simp only [Nat.add_eq] at h5
    have hsz : off_ok p.1 qv.cells.size cs.size := by unfold off_ok; omega
    refine (fun ⟨cs', l, a, b, c⟩ => ⟨cs', l, ?_, b, c⟩) (bld_ok (place := place) (k := k) parts ps (putL new p.1 cells) (qv.cells.zipIdx.foldl (fun cs (c, j) => cs.setIfInBounds (p.1 + j) c) cs) (by simpa using hl)
      (fun j p' q' a b => hp (j + 1) p' q' (by simpa using a) (by simpa using b)) ?_ hk)
    · have ef : qv.cells.zipIdx.foldl (fun cs (x : Value × Nat) => cs.setIfInBounds (p.1 + x.2) x.1) cs = (qv.cells.toList.zipIdx 0).foldl (fun cs (x : Value × Nat) => cs.setIfInBounds (p.1 + x.2) x.1) cs := by
        rw [← Array.foldl_toList]; simp
      have key := fun j => fold_set qv.cells.toList 0 p.1 cs j (by simp only [Array.length_toList]; unfold off_ok at hsz; omega)
      show VRl σ φ _ (qv.cells.zipIdx.foldl (fun cs (x : Value × Nat) => cs.setIfInBounds (p.1 + x.2) x.1) cs).toList
      rw [ef]
      refine VRl.of_get ?_ ?_
      · rw [putL_len _ _ _ (by omega)]
        simp only [Array.length_toList]
        rw [(key 0).1]; exact h7
      · intro j v w hv' hw
        rw [putL_get _ _ _ _ (by omega)] at hv'
        rw [Array.getElem?_toList, (key j).2] at hw
        simp only [Array.length_toList, Nat.add_zero] at hw
        by_cases g : p.1 ≤ j ∧ j < p.1 + new.length
        · rw [if_pos g] at hv'
          rw [if_pos (by omega)] at hw
          obtain ⟨w', g1, g2⟩ := h3.get hv'
          rw [hw] at g1
          simp only [Option.some.injEq] at g1
          subst g1
          exact g2
        · rw [if_neg g] at hv'
          rw [if_neg (by omega)] at hw
          obtain ⟨w', g1, g2⟩ := hv.get hv'
          rw [Array.getElem?_toList, hw] at g1
          simp only [Option.some.injEq] at g1
          subst g1
          exact g2
    · simp only [Instr.fill, h1]
      rw [if_neg (by simp only [ne_eq, Bool.or_eq_true, decide_eq_true_eq]; unfold off_ok at hsz; omega)]
      exact a
end
end Go.Run
