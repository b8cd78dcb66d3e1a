
/- Slices that are made and grown. -/
import Derived.Test.YtndbdehpkiimjaaGreatHLMem
namespace Go.HL

/-! ### A slice literal -/
theorem foldl_set (cs : List Value) : ∀ (pre mid suf : List Value), mid.length = cs.length →
    (cs.zipIdx).foldl (fun (a : Array Value) (x : Value × Nat) => a.setIfInBounds (pre.length + x.2) x.1) (pre ++ mid ++ suf).toArray = (pre ++ cs ++ suf).toArray := by
  have key : ∀ (cs : List Value) (k : Nat) (done mid pre suf : List Value), done.length = k → mid.length = cs.length →
      (cs.zipIdx k).foldl (fun (a : Array Value) (x : Value × Nat) => a.setIfInBounds (pre.length + x.2) x.1) (pre ++ (done ++ mid) ++ suf).toArray = (pre ++ (done ++ cs) ++ suf).toArray := by
    intro cs
    induction cs with
    | nil => intro k done mid pre suf _ hm; have : mid = [] := by cases mid <;> simp_all
             subst this; rfl
    | cons c cs ih =>
      intro k done mid pre suf hk hm
      cases mid with
      | nil => simp at hm
      | cons x mid =>
        simp only [List.zipIdx_cons, List.foldl_cons]
        have e : (pre ++ (done ++ x :: mid) ++ suf).toArray.setIfInBounds (pre.length + k) c = (pre ++ ((done ++ [c]) ++ mid) ++ suf).toArray := by
          simp only [List.setIfInBounds_toArray]
          congr 1
          rw [List.append_assoc, List.set_append_right _ _ (by omega)]
          simp only [Nat.add_sub_cancel_left, List.append_assoc, List.cons_append, List.nil_append]
          rw [List.set_append_right _ _ (by omega)]
          simp [hk]
        rw [e]
        have := ih (k + 1) (done ++ [c]) mid pre suf (by simp [hk]) (by simpa using hm)
        rw [this]
        simp
  intro pre mid suf hm
  simpa using key cs 0 [] mid pre suf rfl hm
def enumV (vs : List Value) : List (Nat × Value) := vs.zipIdx.map fun x => (x.2, x.1)
theorem fill_enum {s : Nat} : ∀ (vs : List Value) (k : Nat) (pre rest : List Value), pre.length = k * s → rest.length = vs.length * s → (∀ v ∈ vs, v.cells.size = s) →
    Instr.fill (fun i => some (i * s, s)) (pre ++ rest).toArray ((vs.zipIdx k).map fun x => (x.2, x.1)) = some (pre ++ vs.flatMap (·.cells.toList)).toArray := by
  intro vs
  induction vs with
  | nil => intro k pre rest _ hr _; have : rest = [] := by cases rest <;> simp_all
           subst this; simp [Instr.fill]
  | cons v vs ih =>
    intro k pre rest hp hr hv
    have hvs := hv v (by simp)
    simp only [List.zipIdx_cons, List.map_cons, Instr.fill]
    have hlen : s ≤ rest.length := by rw [hr]; simp [Nat.add_mul]; 
    rw [if_neg (by simp [hvs, hp]; omega)]
    have hsplit : rest = rest.take s ++ rest.drop s := (List.take_append_drop s rest).symm
    have hf := foldl_set v.cells.toList pre (rest.take s) (rest.drop s) (by simp [hvs]; omega)
    have e : v.cells.zipIdx.foldl (fun cs x => cs.setIfInBounds (k * s + x.2) x.1) (pre ++ rest).toArray = (pre ++ v.cells.toList ++ rest.drop s).toArray := by
      rw [← hf, ← hp]
      rw [← Array.foldl_toList, Array.toList_zipIdx]
      congr 2
      rw [List.append_assoc, List.take_append_drop]
    rw [show (v.cells.zipIdx.foldl (fun cs x => match x with | (c, j) => cs.setIfInBounds (k * s + j) c) (pre ++ rest).toArray) = (pre ++ v.cells.toList ++ rest.drop s).toArray from e]
    rw [ih (k + 1) (pre ++ v.cells.toList) (rest.drop s) (by simp [hp, hvs, Nat.add_mul]) (by simp [hr, Nat.add_mul]) (fun u hu => hv u (by simp [hu]))]
    simp
theorem mkCells_size {z : Array Value} {n : Nat} : (mkCells z n).size = n := by simp [mkCells]
theorem buildSlice_enum {P : Program} {H : Heap} {t : TypeId} {vs : List Value} : buildSliceV P H t vs.length (enumV vs) =
    (elemT P t).bind fun e => (sizeT P e).bind fun s => (zeroT P e).bind fun _ => if vs.length * s ≤ 16777216 then
      (if (vs.all fun v => v.cells.size == s) = true then some (.slice (some ⟨H.size, 0, none⟩) vs.length vs.length, H.push (.cells (vs.flatMap (·.cells.toList)).toArray e)) else buildSliceV P H t vs.length (enumV vs)) else none := by
  conv => lhs; unfold buildSliceV
  cases he : elemT P t with
  | none => rfl
  | some e =>
    cases hs : sizeT P e with
    | none => simp [hs]
    | some s =>
      cases hz : zeroT P e with
      | none => simp [hs, hz]
      | some z =>
        simp only [hs, hz, Option.bind_some]
        split
        · rename_i hl
          split
          · rename_i ha
            rw [List.all_eq_true] at ha
            have := fill_enum (s := s) vs 0 [] (mkCells z.cells (vs.length * s)).toList (by simp) (by simp [mkCells_size]) (fun v hv => by simpa using ha v hv)
            unfold fillV enumV
            simp only [List.nil_append, Array.toArray_toList] at this
            rw [this]
            rfl
          · unfold buildSliceV
            simp only [he, hs, hz, Option.bind_some, if_pos hl]
        · rfl
section
variable {P : Program} {H : Heap} {t : TypeId} {a b c d : Value}
def bsl (P : Program) (H : Heap) (t : TypeId) (vs : List Value) : Option (Value × Heap) :=
  (elemT P t).bind fun e => (sizeT P e).bind fun s => (zeroT P e).bind fun _ =>
    chk (vs.length * s ≤ 16777216 ∧ (vs.all fun v => v.cells.size == s) = true) (some (.slice (some ⟨H.size, 0, none⟩) vs.length vs.length, H.push (.cells (vs.flatMap (·.cells.toList)).toArray e)))
theorem bsl_sound {vs : List Value} {r : Value × Heap} (h : bsl P H t vs = some r) : buildSliceV P H t vs.length (enumV vs) = some r := by
  unfold bsl at h
  rw [buildSlice_enum]
  cases he : elemT P t with
  | none => simp [he] at h
  | some e =>
    cases hs : sizeT P e with
    | none => simp [he, hs] at h
    | some s =>
      cases hz : zeroT P e with
      | none => simp [he, hs, hz] at h
      | some z =>
        simp only [he, hs, hz, Option.bind_some] at h ⊢
        obtain ⟨⟨h1, h2⟩, h3⟩ := chk_some h
        rw [if_pos h1, if_pos h2]
        exact h3
/-- One element of one cell. -/
theorem bs_one {e : TypeId} {z : Value} (he : elemT P t = some e) (hs : sizeT P e = some 1) (hz : zeroT P e = some z) (ha : a.cells = #[a]) :
    buildSliceV P H t 1 [(0, a)] = some (.slice (some ⟨H.size, 0, none⟩) 1 1, H.push (.cells #[a] e)) := by
  refine bsl_sound (vs := [a]) ?_
  simp [bsl, he, hs, hz, chk, ha]
theorem bs_two {e : TypeId} {z : Value} (he : elemT P t = some e) (hs : sizeT P e = some 1) (hz : zeroT P e = some z) (ha : a.cells = #[a]) (hb : b.cells = #[b]) :
    buildSliceV P H t 2 [(0, a), (1, b)] = some (.slice (some ⟨H.size, 0, none⟩) 2 2, H.push (.cells #[a, b] e)) := by
  refine bsl_sound (vs := [a, b]) ?_
  simp [bsl, he, hs, hz, chk, ha, hb]
theorem bs_three {e : TypeId} {z : Value} (he : elemT P t = some e) (hs : sizeT P e = some 1) (hz : zeroT P e = some z) (ha : a.cells = #[a]) (hb : b.cells = #[b]) (hc : c.cells = #[c]) :
    buildSliceV P H t 3 [(0, a), (1, b), (2, c)] = some (.slice (some ⟨H.size, 0, none⟩) 3 3, H.push (.cells #[a, b, c] e)) := by
  refine bsl_sound (vs := [a, b, c]) ?_
  simp [bsl, he, hs, hz, chk, ha, hb, hc]
theorem bs_four {e : TypeId} {z : Value} (he : elemT P t = some e) (hs : sizeT P e = some 1) (hz : zeroT P e = some z) (ha : a.cells = #[a]) (hb : b.cells = #[b]) (hc : c.cells = #[c]) (hd : d.cells = #[d]) :
    buildSliceV P H t 4 [(0, a), (1, b), (2, c), (3, d)] = some (.slice (some ⟨H.size, 0, none⟩) 4 4, H.push (.cells #[a, b, c, d] e)) := by
  refine bsl_sound (vs := [a, b, c, d]) ?_
  simp [bsl, he, hs, hz, chk, ha, hb, hc, hd]
theorem bs_zero {e : TypeId} {s : Nat} {z : Value} (he : elemT P t = some e) (hs : sizeT P e = some s) (hz : zeroT P e = some z) :
    buildSliceV P H t 0 [] = some (.slice (some ⟨H.size, 0, none⟩) 0 0, H.push (.cells #[] e)) := by
  refine bsl_sound (vs := []) ?_
  simp [bsl, he, hs, hz, chk]
end

/-! ### make -/
@[go_sem] theorem makeV_int {P : Program} {H : Heap} {t : TypeId} {k k' : IntKind} {l c : Int} : makeV P H t (.int k l) (.int k' c) = (elemT P t).bind fun e => (bytesT P e).bind fun b => (sizeT P e).bind fun s => (zeroT P e).bind fun z =>
    chk (0 ≤ l ∧ l ≤ c ∧ c ≤ 281474976710656 ∧ (b : Int) * c ≤ 281474976710656) (some (.slice (some ⟨H.size, 0, none⟩) l.toNat c.toNat, H.push (.cells (mkCells z.cells (c.toNat * s)) e))) := (rfl)
@[go_sem] theorem mkCells_one {z : Value} {n : Nat} : mkCells #[z] n = (List.replicate n z).toArray := by
  unfold mkCells
  apply Array.ext'
  simp only [Array.toList_map, Array.toList_range]
  apply List.ext_getElem (by simp)
  intro i h1 h2
  simp [Nat.mod_one]
attribute [go_sem] Int.natCast_zero

/-! ### A struct or an array, part by part -/
def setR (cells : List Value) (off : Nat) : List Value → List Value
  | [] => cells
  | v :: vs => setR (cells.set off v) (off + 1) vs
def fillL (place : Nat → Option (Nat × Nat)) (cells : List Value) : List (Nat × Value) → Option (List Value)
  | [] => some cells
  | x :: r => (place x.1).bind fun p => chk (x.2.cells.size = p.2 ∧ p.1 + p.2 ≤ cells.length) (fillL place (setR cells p.1 x.2.cells.toList) r)
theorem setR_fold : ∀ (vs : List Value) (cells : List Value) (off k : Nat),
    (vs.zipIdx k).foldl (fun (a : Array Value) (x : Value × Nat) => a.setIfInBounds (off + x.2) x.1) cells.toArray = (setR cells (off + k) vs).toArray := by
  intro vs
  induction vs with
  | nil => intro cells off k; rfl
  | cons v vs ih =>
    intro cells off k
    simp only [List.zipIdx_cons, List.foldl_cons, List.setIfInBounds_toArray, setR]
    rw [ih]
    rfl
theorem fill_list {place : Nat → Option (Nat × Nat)} : ∀ (parts : List (Nat × Value)) (cells : List Value) (r : List Value), fillL place cells parts = some r → Instr.fill place cells.toArray parts = some r.toArray := by
  intro parts
  induction parts with
  | nil => intro cells r h; simp only [fillL, Option.some.injEq] at h; subst h; rfl
  | cons x rest ih =>
    intro cells r h
    obtain ⟨i, v⟩ := x
    simp only [fillL] at h
    cases hp : place i with
    | none => simp [hp] at h
    | some p =>
      obtain ⟨off, size⟩ := p
      simp only [hp, Option.bind_some] at h
      obtain ⟨⟨h1, h2⟩, h3⟩ := chk_some h
      simp only [Instr.fill, hp]
      rw [if_neg (by simp [h1]; omega)]
      have e : v.cells.zipIdx.foldl (fun cs x => cs.setIfInBounds (off + x.2) x.1) cells.toArray = (setR cells off v.cells.toList).toArray := by
        rw [← Array.foldl_toList, Array.toList_zipIdx]
        exact setR_fold v.cells.toList cells off 0
      rw [show (v.cells.zipIdx.foldl (fun cs x => match x with | (c, j) => cs.setIfInBounds (off + j) c) cells.toArray) = (setR cells off v.cells.toList).toArray from e]
      exact ih _ _ h3
def buildL (P : Program) (t : TypeId) (parts : List (Nat × Value)) : Option Value :=
  match placesT P t with
  | some ps => (zeroT P t).bind fun z => (fillL (ps[·]?) z.cells.toList parts).map fun l => .agg l.toArray
  | none => (arrS P t).bind fun e => (zeroT P t).bind fun z => (fillL (fun i => some (i * e.2, e.2)) z.cells.toList parts).map fun l => .agg l.toArray
theorem build_of {P : Program} {t : TypeId} {parts : List (Nat × Value)} {v : Value} (h : buildL P t parts = some v) : buildV P t parts = some v := by
  unfold buildL at h
  unfold buildV
  split at h
  · rename_i ps hps
    simp only [Option.bind_eq_some_iff, Option.map_eq_some_iff] at h
    obtain ⟨z, hz, l, hl, rfl⟩ := h
    have := fill_list parts z.cells.toList l hl
    simp only [Array.toArray_toList] at this
    simp only [hps, hz, Option.bind_some, this, Option.map_some]
  · rename_i hps
    simp only [Option.bind_eq_some_iff, Option.map_eq_some_iff] at h
    obtain ⟨e, he, z, hz, l, hl, rfl⟩ := h
    have := fill_list parts z.cells.toList l hl
    simp only [Array.toArray_toList] at this
    simp only [hps, he, hz, Option.bind_some, this, Option.map_some]

/-! ### append -/
/-- What append needs to know of the element type: its number, its cells, its bytes, its zero. -/
structure ElT (P : Program) (t : TypeId) (e size bytes : Nat) (z : Value) : Prop where
  elem : elemT P t = some e
  size : sizeT P e = some size
  bytes : bytesT P e = some bytes
  zero : zeroT P e = some z
theorem ElT.under {P : Program} {t : TypeId} {e size bytes : Nat} {z : Value} (h : ElT P t e size bytes z) : P.underlying t = some (.slice e) := by
  have he := h.elem
  unfold elemT at he
  cases hu : P.underlying t with
  | none => simp [hu] at he
  | some d => cases d <;> simp [hu] at he; subst he; rfl
theorem cellsH_at {c : Addr → Option Value} {b : Nat} : ∀ (l : List Value) (o i : Nat), (∀ j (h : j < l.length), c ⟨b, o + i + j, none⟩ = some l[j]) → cellsH c ⟨b, o, none⟩ i l.length = some l := by
  intro l
  induction l with
  | nil => intro o i _; rfl
  | cons v l ih =>
    intro o i h
    simp only [List.length_cons, cellsH]
    have h0 := h 0 (by simp)
    simp only [List.getElem_cons_zero, Nat.add_zero] at h0
    rw [addr_add, h0]
    simp only [Option.bind_some]
    rw [ih o (i + 1) (fun j hj => by have := h (j + 1) (by simpa using hj); simpa [Nat.add_assoc, Nat.add_comm 1 j] using this)]
    rfl
/-- append of one value that lies in a block of its own; there is room. -/
theorem app_fit1 {P : Program} {H H' : Heap} {t e bytes : Nat} {z v : Value} {b o len cap xb : Nat} {k : Value → Heap → Prop} (hT : ElT P t e 1 bytes z) (hfit : len < cap)
    (hx : cellH H ⟨xb, 0, none⟩ = some v) (hv : oneC v = true) (hw : wr H ⟨b, o + len, none⟩ v = some H') (hk : k (.slice (some ⟨b, o, none⟩) (len + 1) cap) H') :
    @appB P t t (.slice (some ⟨b, o, none⟩) len cap) (.slice (some ⟨xb, 0, none⟩) 1 1) ⟨H⟩ ⟨k⟩ := by
  show appW P H t t _ _ k
  unfold appW
  simp only [someW_iff]
  refine ⟨e, hT.elem, 1, hT.size, bytes, hT.bytes, z, hT.zero, 1, rfl, [v], ?_, .slice e, hT.under, by simp, ?_⟩
  · show cellsH (cellH H) ⟨xb, 0, none⟩ 0 1 = some [v]
    have := cellsH_at (c := cellH H) (b := xb) [v] 0 0 (by intro j hj; simp at hj; subst hj; simpa using hx)
    simpa using this
  · rw [if_pos (by omega)]
    refine ⟨H', ?_, hk⟩
    rw [storeCells_wrs _ _ _ (by simp [hv]), wrs_one, addr_add, Nat.mul_one]
    exact hw

/-- What holds behind a piece of code that cannot panic. -/
theorem cut_by {n : Nat} {P : Program} {c : Code} {K : En → Heap → Prop} {Q : Exit → En → Heap → Prop} {ρ : En} {H : Heap} (R : En → Heap → Prop)
    (h : @stop ⟨CW n P c (seqQ (fun ρ H => @stop ⟨R ρ H⟩) (fun _ _ _ => False)) ρ H⟩) (h2 : ∀ ρ H, R ρ H → K ρ H) : @stop ⟨CW n P c (seqQ K Q) ρ H⟩ := by
  refine CW.mono ?_ h
  intro e ρ H hx
  cases e <;> first | exact h2 _ _ hx | exact hx.elim
/-- The same in front of a piece of code that is worked out. -/
theorem cut_cw {n : Nat} {P : Program} {c : Code} {K : En → Heap → Prop} {Q : Exit → En → Heap → Prop} {ρ : En} {H : Heap} (R : En → Heap → Prop)
    (h : cw n P c (seqQ (fun ρ H => @stop ⟨R ρ H⟩) Q) ρ H) (h2 : ∀ ρ H, R ρ H → K ρ H) : CW n P c (seqQ K Q) ρ H := by
  refine CW.mono ?_ (cw_sound c _ _ _ h)
  intro e ρ H hx
  cases e <;> first | exact h2 _ _ hx | exact hx
end Go.HL
