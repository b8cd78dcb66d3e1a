
/- Blocks of memory: reading, writing, making. -/
import Derived.Test.YtndbdehpkiimjaaGreatHLDrawVc
namespace Go.HL

/-! ### Writing one cell -/
def wr (H : Heap) (a : Addr) (v : Value) : Option Heap := if (cellH H a).isSome = true ∧ frozenH H a = false then some (setH H a v) else none
def wrs (H : Heap) (a : Addr) : List Value → Nat → Option Heap
  | [], _ => some H
  | v :: r, i => (wr H (a.add i) v).bind fun H' => wrs H' a r (i + 1)
theorem storeCells_wrs {a : Addr} : ∀ (vs : List Value) (H : Heap) (i : Nat), (∀ v ∈ vs, oneC v = true) → storeCellsH H a vs i = wrs H a vs i := by
  intro vs
  induction vs with
  | nil => intro H i _; rfl
  | cons v r ih =>
    intro H i h
    have hv := h v (by simp)
    simp only [storeCellsH, wrs, wr, hv, true_and]
    split
    · exact ih _ _ fun u hu => h u (by simp [hu])
    · rfl
section
variable {P : Program} {H : Heap} {t : TypeId} {a : Addr}
theorem storeA_cells {v : Value} {vs : List Value} (hc : v.cells = vs.toArray) (h1 : ∀ u ∈ vs, oneC u = true) : storeA P H t a v = (sizeT P t).bind fun s => chk (vs.length = s) (wrs H a vs 0) := by
  unfold storeA
  cases sizeT P t with
  | none => rfl
  | some s =>
    simp only [hc, List.size_toArray, Option.bind_some, chk]
    split
    · exact storeCells_wrs vs H 0 h1
    · rfl
@[go_sem] theorem wrs_one {v : Value} : wrs H a [v] 0 = wr H a v := by
  have e : a.add 0 = a := rfl
  simp only [wrs, e]
  cases wr H a v <;> rfl
@[go_sem] theorem storeA_int {k : IntKind} {n : Int} : storeA P H t a (.int k n) = (sizeT P t).bind fun s => chk (1 = s) (wr H a (.int k n)) := by
  rw [storeA_cells (vs := [.int k n]) rfl (by simp [oneC]), ← wrs_one]; rfl
@[go_sem] theorem storeA_bool {b : Bool} : storeA P H t a (.bool b) = (sizeT P t).bind fun s => chk (1 = s) (wr H a (.bool b)) := by
  rw [storeA_cells (vs := [.bool b]) rfl (by simp [oneC]), ← wrs_one]; rfl
@[go_sem] theorem storeA_string {b : ByteArray} : storeA P H t a (.string b) = (sizeT P t).bind fun s => chk (1 = s) (wr H a (.string b)) := by
  rw [storeA_cells (vs := [.string b]) rfl (by simp [oneC]), ← wrs_one]; rfl
@[go_sem] theorem storeA_pointer {b : Option Addr} : storeA P H t a (.pointer b) = (sizeT P t).bind fun s => chk (1 = s) (wr H a (.pointer b)) := by
  rw [storeA_cells (vs := [.pointer b]) rfl (by simp [oneC]), ← wrs_one]; rfl
@[go_sem] theorem storeA_slice {b : Option Addr} {m c : Nat} : storeA P H t a (.slice b m c) = (sizeT P t).bind fun s => chk (1 = s) (wr H a (.slice b m c)) := by
  rw [storeA_cells (vs := [.slice b m c]) rfl (by simp [oneC]), ← wrs_one]; rfl
@[go_sem] theorem storeA_map {b : Option Nat} : storeA P H t a (.map b) = (sizeT P t).bind fun s => chk (1 = s) (wr H a (.map b)) := by
  rw [storeA_cells (vs := [.map b]) rfl (by simp [oneC]), ← wrs_one]; rfl
@[go_sem] theorem storeA_func {f : Fn} {x y : Array Value} : storeA P H t a (.func f x y) = (sizeT P t).bind fun s => chk (1 = s) (wr H a (.func f x y)) := by
  rw [storeA_cells (vs := [.func f x y]) rfl (by simp [oneC]), ← wrs_one]; rfl
@[go_sem] theorem storeA_nilFunc : storeA P H t a .nilFunc = (sizeT P t).bind fun s => chk (1 = s) (wr H a .nilFunc) := by
  rw [storeA_cells (vs := [.nilFunc]) rfl (by simp [oneC]), ← wrs_one]; rfl
@[go_sem] theorem storeA_iface {x : TypeId} {y : Value} : storeA P H t a (.iface x y) = (sizeT P t).bind fun s => chk (1 = s) (wr H a (.iface x y)) := by
  rw [storeA_cells (vs := [.iface x y]) rfl (by simp [oneC]), ← wrs_one]; rfl
@[go_sem] theorem storeA_nilIface : storeA P H t a .nilIface = (sizeT P t).bind fun s => chk (1 = s) (wr H a .nilIface) := by
  rw [storeA_cells (vs := [.nilIface]) rfl (by simp [oneC]), ← wrs_one]; rfl
@[go_sem] theorem chk_one {o : Option Heap} : chk (1 = 1) o = o := if_pos rfl
@[go_sem] theorem cells_int {k : IntKind} {n : Int} : (Value.int k n).cells = #[.int k n] := (rfl)
@[go_sem] theorem cells_bool {b : Bool} : (Value.bool b).cells = #[.bool b] := (rfl)
@[go_sem] theorem cells_string {b : ByteArray} : (Value.string b).cells = #[.string b] := (rfl)
@[go_sem] theorem cells_pointer {b : Option Addr} : (Value.pointer b).cells = #[.pointer b] := (rfl)
@[go_sem] theorem cells_slice {b : Option Addr} {m c : Nat} : (Value.slice b m c).cells = #[.slice b m c] := (rfl)
@[go_sem] theorem cells_map {b : Option Nat} : (Value.map b).cells = #[.map b] := (rfl)
@[go_sem] theorem cells_func {f : Fn} {x y : Array Value} : (Value.func f x y).cells = #[.func f x y] := (rfl)
@[go_sem] theorem cells_nilFunc : Value.nilFunc.cells = #[.nilFunc] := (rfl)
@[go_sem] theorem cells_iface {x : TypeId} {y : Value} : (Value.iface x y).cells = #[.iface x y] := (rfl)
@[go_sem] theorem cells_nilIface : Value.nilIface.cells = #[.nilIface] := (rfl)
@[go_sem] theorem cells_agg {x : Array Value} : (Value.agg x).cells = x := (rfl)
end

/-! ### Blocks -/
/-- Block b holds just these cells, and may be written. -/
def Blk (H : Heap) (b : Nat) (t : TypeId) (vs : List Value) : Prop := H[b]? = some (.cells vs.toArray t (0, 0))
section
variable {H : Heap} {b b' : Nat} {t t' : TypeId} {vs vs' : List Value}
theorem Blk.cell (h : Blk H b t vs) (i : Nat) : cellH H ⟨b, i, none⟩ = vs[i]? := by
  unfold cellH; rw [h]; simp
theorem Blk.frozen (h : Blk H b t vs) (i : Nat) : frozenH H ⟨b, i, none⟩ = false := by
  unfold frozenH; rw [h]; simp
theorem Blk.lt (h : Blk H b t vs) : b < H.size := by
  rcases Nat.lt_or_ge b H.size with h' | h'
  · exact h'
  · unfold Blk at h; rw [Array.getElem?_eq_none h'] at h; simp at h
theorem Blk.wr (h : Blk H b t vs) {i : Nat} (hi : i < vs.length) (v : Value) : wr H ⟨b, i, none⟩ v = some (setH H ⟨b, i, none⟩ v) := by
  unfold HL.wr; rw [h.cell, h.frozen, if_pos]; simp [hi]
theorem setH_other {a : Addr} {v : Value} (h : b ≠ a.block) : (setH H a v)[b]? = H[b]? := by
  unfold setH; rw [Array.getElem?_modify]; simp [Ne.symm h]
theorem Blk.set (h : Blk H b t vs) (i : Nat) (v : Value) : Blk (setH H ⟨b, i, none⟩ v) b t (vs.set i v) := by
  unfold Blk setH; rw [Array.getElem?_modify]; unfold Blk at h; simp [h]
theorem Blk.set_other (h : Blk H b t vs) {a : Addr} {v : Value} (hb : b ≠ a.block) : Blk (setH H a v) b t vs := by
  unfold Blk; rw [setH_other hb]; exact h
theorem Blk.push (h : Blk H b t vs) (o : Obj) : Blk (H.push o) b t vs := by
  have := h.lt
  unfold Blk at h ⊢
  rw [Array.getElem?_push]; simp [Nat.ne_of_lt this, h]
theorem Blk.new {l : Array Value} (h : vs.toArray = l) : Blk (H.push (.cells l t)) H.size t vs := by
  unfold Blk; simp [h]
theorem Blk.inj (h : Blk H b t vs) (h' : Blk H b t' vs') : vs = vs' ∧ t = t' := by
  unfold Blk at h h'; rw [h] at h'; simpa using h'
theorem size_setH {a : Addr} {v : Value} : (setH H a v).size = H.size := by unfold setH; simp
end

/-! ### Frames -/
/-- H' has grown out of H, and differs in the blocks of F alone. -/
structure Fr (F : List Nat) (H H' : Heap) : Prop where
  size : H.size ≤ H'.size
  same : ∀ b, b < H.size → b ∉ F → H'[b]? = H[b]?
theorem Fr.refl (F : List Nat) (H : Heap) : Fr F H H := ⟨Nat.le_refl _, fun _ _ _ => rfl⟩
theorem Fr.trans {F : List Nat} {H H' H'' : Heap} (h : Fr F H H') (h' : Fr F H' H'') : Fr F H H'' :=
  ⟨Nat.le_trans h.size h'.size, fun b hb hF => (h'.same b (Nat.lt_of_lt_of_le hb h.size) hF).trans (h.same b hb hF)⟩
theorem Fr.mono {F G : List Nat} {H H' : Heap} (h : Fr F H H') (hs : ∀ b, b < H.size → b ∈ F → b ∈ G) : Fr G H H' :=
  ⟨h.size, fun b hb hG => h.same b hb fun hF => hG (hs b hb hF)⟩
theorem Fr.set {F : List Nat} {H : Heap} {a : Addr} {v : Value} (h : a.block ∈ F) : Fr F H (setH H a v) :=
  ⟨by rw [size_setH]; exact Nat.le_refl _, fun b _ hF => setH_other (fun e => hF (e ▸ h))⟩
theorem Fr.push {F : List Nat} {H : Heap} {o : Obj} : Fr F H (H.push o) :=
  ⟨by simp, fun b hb _ => by rw [Array.getElem?_push]; simp [Nat.ne_of_lt hb]⟩
theorem Fr.set' {F : List Nat} {H H' : Heap} {a : Addr} {v : Value} (h0 : Fr F H H') (h : a.block ∈ F ∨ H.size ≤ a.block) : Fr F H (setH H' a v) :=
  ⟨by rw [size_setH]; exact h0.size, fun b hb hF => by
    have hne : b ≠ a.block := by
      rintro rfl
      rcases h with h | h
      · exact hF h
      · omega
    rw [setH_other hne]; exact h0.same b hb hF⟩
theorem Fr.push' {F : List Nat} {H H' : Heap} {o : Obj} (h0 : Fr F H H') : Fr F H (H'.push o) := h0.trans Fr.push
theorem Fr.blk {F : List Nat} {H H' : Heap} (h : Fr F H H') {b : Nat} {t : TypeId} {vs : List Value} (hb : Blk H b t vs) (hF : b ∉ F) : Blk H' b t vs := by
  unfold Blk; rw [h.same b hb.lt hF]; exact hb
theorem Fr.cell {F : List Nat} {H H' : Heap} (h : Fr F H H') {a : Addr} (hb : a.block < H.size) (hF : a.block ∉ F) : cellH H' a = cellH H a := by
  unfold cellH; rw [h.same _ hb hF]
theorem cell_lt {H : Heap} {a : Addr} {v : Value} (h : cellH H a = some v) : a.block < H.size := by
  rcases Nat.lt_or_ge a.block H.size with h' | h'
  · exact h'
  · unfold cellH at h; rw [Array.getElem?_eq_none h'] at h; simp at h
theorem Fr.cell' {F : List Nat} {H H' : Heap} (h : Fr F H H') {a : Addr} {v : Value} (hc : cellH H a = some v) (hF : a.block ∉ F) : cellH H' a = some v := (h.cell (cell_lt hc) hF).trans hc

/-- The i-th of a list of numbers. -/
def nt (xs : List Int) (i : Nat) : Int := xs.getD i 0
theorem nt_lt {xs : List Int} {i : Nat} (h : i < xs.length) : xs[i]? = some (nt xs i) := by
  unfold nt; rw [List.getD_eq_getElem?_getD, List.getElem?_eq_getElem h]; rfl
theorem nt_set_eq {xs : List Int} {i : Nat} {v : Int} (h : i < xs.length) : nt (xs.set i v) i = v := by
  unfold nt; simp [h]
theorem nt_set_ne {xs : List Int} {i j : Nat} {v : Int} (h : i ≠ j) : nt (xs.set i v) j = nt xs j := by
  unfold nt; simp [List.getElem?_set_ne h]
/-- A block of numbers of 64 bits. -/
def IB (H : Heap) (b : Nat) (t : TypeId) (xs : List Int) : Prop := Blk H b t (xs.map (Value.int .i64))
theorem IB.cell {H : Heap} {b : Nat} {t : TypeId} {xs : List Int} (h : IB H b t xs) {i : Nat} (hi : i < xs.length) : cellH H ⟨b, i, none⟩ = some (.int .i64 (nt xs i)) := by
  rw [Blk.cell h, List.getElem?_map, nt_lt hi]; rfl
theorem IB.wr {H : Heap} {b : Nat} {t : TypeId} {xs : List Int} (h : IB H b t xs) {i : Nat} (hi : i < xs.length) (v : Value) : wr H ⟨b, i, none⟩ v = some (setH H ⟨b, i, none⟩ v) := Blk.wr h (by simpa using hi) v
theorem IB.set {H : Heap} {b : Nat} {t : TypeId} {xs : List Int} (h : IB H b t xs) (i : Nat) (v : Int) : IB (setH H ⟨b, i, none⟩ (.int .i64 v)) b t (xs.set i v) := by
  unfold IB; rw [List.map_set]; exact Blk.set h i _
theorem IB.set_other {H : Heap} {b : Nat} {t : TypeId} {xs : List Int} (h : IB H b t xs) {a : Addr} {v : Value} (hb : b ≠ a.block) : IB (setH H a v) b t xs := Blk.set_other h hb
theorem IB.lt {H : Heap} {b : Nat} {t : TypeId} {xs : List Int} (h : IB H b t xs) : b < H.size := Blk.lt h
end Go.HL
