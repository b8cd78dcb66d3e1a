/- The rules by which simp works out the condition of a region that draws its order. -/
import Derived.Test.YtofooamimiijlaaGreatL04
namespace Go.HL

/-- Several looks, one behind the other. -/
def lk : List (Nat × Bool) → Plan → Plan
  | [], p => p
  | x :: r, p => .look x.1 x.2 (lk r p)
def heldB (hl : List (Addr × Value)) (H : Heap) [p : Inhabited Prop] : Prop := heldOK hl H ∧ p.default
theorem held_by {hl : List (Addr × Value)} {H : Heap} {p : Prop} (h : heldOK hl H) (hp : p) : @heldB hl H ⟨p⟩ := ⟨h, hp⟩
theorem heldOK_nil {H : Heap} : heldOK [] H := fun _ _ h => by simp [lookA] at h

section
variable {n : Nat} {P : Program} {l : List Oper} {hl : List (Addr × Value)} {Q : Exit → En → Heap → Prop} {ρ : En} {H : Heap}
@[go_sem ↓] theorem lk_nil {p : Plan} : lk [] p = p := (rfl)
@[go_sem ↓] theorem lk_cons {i : Nat} {f : Bool} {r : List (Nat × Bool)} {p : Plan} : lk ((i, f) :: r) p = .look i f (lk r p) := (rfl)
@[go_sem ↓] theorem drawW_nil {p : Plan} : drawW n P l hl Q (lk [] p) ρ H = drawW n P l hl Q p ρ H := (rfl)
@[go_sem ↓] theorem drawW_fin : drawW n P l hl Q .fin ρ H = Q .normal ρ H := (rfl)
@[go_sem ↓] theorem drawW_non : drawW n P l hl Q .non ρ H = True := (rfl)
theorem drawW_look {i : Nat} {f : Bool} {p : Plan} : drawW n P l hl Q (.look i f p) ρ H = someW (l[i]?) fun o => if f then opG n P l.toArray o ρ H (drawW n P l hl Q p) Q else opGF P n hl l o ρ fun ρ' => drawW n P l hl Q p ρ' H := by
  show (match l[i]? with | none => _ | some o => _) = _
  cases l[i]? <;> rfl
@[go_sem ↓] theorem drawW_lk_t {i : Nat} {r : List (Nat × Bool)} {p : Plan} : drawW n P l hl Q (lk ((i, true) :: r) p) ρ H = @someB _ (l[i]?) ⟨fun o => opG n P l.toArray o ρ H (drawW n P l hl Q (lk r p)) Q⟩ := by
  show drawW n P l hl Q (.look i true (lk r p)) ρ H = _
  rw [drawW_look]; rfl
@[go_sem ↓] theorem drawW_lk_f {i : Nat} {r : List (Nat × Bool)} {p : Plan} : drawW n P l hl Q (lk ((i, false) :: r) p) ρ H = @someB _ (l[i]?) ⟨fun o => opGF P n hl l o ρ fun ρ' => drawW n P l hl Q (lk r p) ρ' H⟩ := by
  show drawW n P l hl Q (.look i false (lk r p)) ρ H = _
  rw [drawW_look]; rfl
theorem drawW_act {i : Nat} {p alt : Plan} : drawW n P l hl Q (.act i p alt) ρ H = ((someW (l[i]?) fun o => opG n P l.toArray o ρ H (fun ρ' H' => heldOK hl H' ∧ drawW n P l hl Q p ρ' H') Q) ∧ drawW n P l hl Q alt ρ H) := by
  show ((match l[i]? with | none => _ | some o => _) ∧ _) = _
  cases l[i]? <;> rfl
@[go_sem ↓] theorem drawW_act1 {i : Nat} {p : Plan} : drawW n P l hl Q (.act i p .non) ρ H = @someB _ (l[i]?) ⟨fun o => opG n P l.toArray o ρ H (fun ρ' H' => @heldB hl H' ⟨drawW n P l hl Q p ρ' H'⟩) Q⟩ := by
  rw [drawW_act]
  exact and_true _
@[go_sem ↓] theorem drawW_act2 {i j : Nat} {p q alt : Plan} : drawW n P l hl Q (.act i p (.act j q alt)) ρ H = @both2 ⟨drawW n P l hl Q (.act i p .non) ρ H⟩ ⟨drawW n P l hl Q (.act j q alt) ρ H⟩ := by
  rw [drawW_act]
  show (_ ∧ _) = (drawW n P l hl Q (.act i p .non) ρ H ∧ _)
  rw [drawW_act (alt := .non)]
  show (_ ∧ _) = ((_ ∧ True) ∧ _)
  rw [and_true]
  rfl
theorem drawW_actd' {i : Nat} {p : Plan} : drawW n P l hl Q (.actd i p) ρ H = someW (l[i]?) fun o => opG n P l.toArray o ρ H (drawW n P l [] Q p) Q := by
  show (match l[i]? with | none => _ | some o => _) = _
  cases l[i]? <;> rfl
@[go_sem ↓] theorem drawW_actd {i : Nat} {p : Plan} : drawW n P l hl Q (.actd i p) ρ H = @someB _ (l[i]?) ⟨fun o => opG n P l.toArray o ρ H (drawW n P l [] Q p) Q⟩ := drawW_actd'
/-- Other cells are held from here on. -/
def reholdB (n : Nat) (P : Program) (l : List Oper) (p : Plan) (ρ : En) (H : Heap) [Q : Inhabited (Exit → En → Heap → Prop)] : Prop := ∃ hl', heldOK hl' H ∧ drawW n P l hl' Q.default p ρ H
@[go_sem ↓] theorem drawW_acth {i : Nat} {p : Plan} : drawW n P l hl Q (.acth i p) ρ H = @someB _ (l[i]?) ⟨fun o => opG n P l.toArray o ρ H (fun ρ' H' => @reholdB n P l p ρ' H' ⟨Q⟩) Q⟩ := by
  show (match l[i]? with | none => _ | some o => _) = _
  cases l[i]? <;> rfl
theorem rehold_by {p : Plan} (hl' : List (Addr × Value)) (hh : heldOK hl' H) (h : drawW n P l hl' Q p ρ H) : @reholdB n P l p ρ H ⟨Q⟩ := ⟨hl', hh, h⟩
@[go_sem] theorem heldB_nil {p : Prop} : @heldB [] H ⟨p⟩ = p := by
  unfold heldB
  exact propext ⟨fun h => h.2, fun h => ⟨heldOK_nil, h⟩⟩

variable {dst : Option Nat} {op : Op} {ty : TypeId} {pos : String} {after : Array Edge} {K : En → Prop}
@[go_sem ↓] theorem opGF_none : opGF P n hl l ⟨dst, op, ty, pos, after, none⟩ ρ K = @someB _ (opQ P (held hl) ρ.ev op) ⟨fun v => K (ρ.put n dst v)⟩ := (rfl)
@[go_sem ↓] theorem opGF_some {j : Nat} {want : Bool} : opGF P n hl l ⟨dst, op, ty, pos, after, some (j, want)⟩ ρ K =
    @guardB (slotOf l.toArray ρ j) want ⟨@someB _ (opQ P (held hl) ρ.ev op) ⟨fun v => K (ρ.put n dst v)⟩⟩ ⟨K (ρ.put n dst undef)⟩ := (rfl)
end

section
variable {P : Program} {V : HV} {ρ : Operand → Value}
@[go_sem ↓] theorem opQ_move {x : Operand} : opQ P V ρ (.move x) = some (ρ x) := (rfl)
@[go_sem ↓] theorem opQ_assign {x : Operand} : opQ P V ρ (.assign x) = some (ρ x) := (rfl)
@[go_sem ↓] theorem opQ_pick {c a b : Operand} : opQ P V ρ (.pick c a b) = pickV (ρ c) (ρ a) (ρ b) := (rfl)
@[go_sem ↓] theorem opQ_load {t : TypeId} {a : Operand} : opQ P V ρ (.load t a) = loadQ P V t (ρ a) := (rfl)
@[go_sem ↓] theorem opQ_nilCheck {x : Operand} : opQ P V ρ (.nilCheck x) = nilV (ρ x) := (rfl)
@[go_sem ↓] theorem opQ_binOp {b : BinOp} {t t' : TypeId} {x y : Operand} : opQ P V ρ (.binOp b t x y t') = binV P V b t x y (ρ x) (ρ y) := (rfl)
@[go_sem ↓] theorem opQ_unOp {u : UnOp} {t : TypeId} {x : Operand} : opQ P V ρ (.unOp u t x) = unV u (ρ x) := (rfl)
@[go_sem ↓] theorem opQ_convert {s d : TypeId} {x : Operand} : opQ P V ρ (.convert s d x) = convV P V s d (ρ x) := (rfl)
@[go_sem ↓] theorem opQ_makeInterface {t : TypeId} {x : Operand} : opQ P V ρ (.makeInterface t x) = ifaceV P t (ρ x) := (rfl)
@[go_sem ↓] theorem opQ_makeFunc {fn : Fn} {a b : List Operand} : opQ P V ρ (.makeFunc fn a.toArray b.toArray) = some (.func fn (a.map ρ).toArray (b.map ρ).toArray) := (rfl)
@[go_sem ↓] theorem opQ_slice {t : TypeId} {x : Operand} {a b c : Option Operand} : opQ P V ρ (.slice t x a b c) = sliceV P t (ρ x) (optMap ρ a) (optMap ρ b) (optMap ρ c) := (rfl)
@[go_sem ↓] theorem opQ_fieldAddr {s : TypeId} {x : Operand} {f : Nat} : opQ P V ρ (.fieldAddr s x f) = fieldAV P s (ρ x) f := (rfl)
@[go_sem ↓] theorem opQ_field {s : TypeId} {x : Operand} {f : Nat} : opQ P V ρ (.field s x f) = fieldV P s (ρ x) f := (rfl)
@[go_sem ↓] theorem opQ_indexAddr {s : TypeId} {x i : Operand} : opQ P V ρ (.indexAddr s x i) = indexAV P s (ρ x) (ρ i) := (rfl)
@[go_sem ↓] theorem opQ_index {s : TypeId} {x i : Operand} : opQ P V ρ (.index s x i) = indexV P s (ρ x) (ρ i) := (rfl)
@[go_sem ↓] theorem opQ_extract {x : Operand} {i : Nat} : opQ P V ρ (.extract x i) = extrV (ρ x) i := (rfl)
@[go_sem ↓] theorem opQ_build {t : TypeId} {l : List (Nat × Operand)} : opQ P V ρ (.build t l.toArray) = buildV P t (l.map fun p => (p.1, ρ p.2)) := (rfl)
@[go_sem ↓] theorem opQ_len {t : TypeId} {x : Operand} : opQ P V ρ (.call ⟨.builtin .len, #[x], #[t]⟩) = lenV P V t (ρ x) := (rfl)
@[go_sem ↓] theorem opQ_max {ts : Array TypeId} {x y : Operand} : opQ P V ρ (.call ⟨.builtin .max, #[x, y], ts⟩) = max2V (ρ x) (ρ y) := (rfl)
@[go_sem ↓] theorem opQ_min {ts : Array TypeId} {x y : Operand} : opQ P V ρ (.call ⟨.builtin .min, #[x, y], ts⟩) = min2V (ρ x) (ρ y) := (rfl)
@[go_sem] theorem optMap_none : optMap ρ none = none := (rfl)
@[go_sem] theorem optMap_some {x : Operand} : optMap ρ (some x) = some (ρ x) := (rfl)
end

theorem PanOK.no : PanOK (fun _ _ _ => False) := fun _ _ _ _ _ h => h
theorem draw0 {n : Nat} {P : Program} {l : List Oper} {Q : Exit → En → Heap → Prop} {id : Nat} {ρ : En} {H : Heap} (p : Plan) (hm : P.follows .mixedOrders = true) (h : drawW n P l [] Q p ρ H)
    (hok : drawOK l p = true := by kernel_rfl) (hpan : PanOK Q := by repeat (first | with_reducible exact PanOK.ret | with_reducible exact PanOK.no | with_reducible refine PanOK.seq ?_ | with_reducible refine PanOK.blk ?_ | exact PanOK.ret | exact PanOK.no | refine PanOK.seq ?_ | refine PanOK.blk ?_)) : @stop ⟨CW n P (.region id l.toArray true) Q ρ H⟩ :=
  draw_by p [] hm hok hpan heldOK_nil h
theorem draw1 {n : Nat} {P : Program} {l : List Oper} {Q : Exit → En → Heap → Prop} {id : Nat} {ρ : En} {H : Heap} (p : Plan) (hm : P.follows .mixedOrders = true) (hl : List (Addr × Value)) (hh : heldOK hl H) (h : drawW n P l hl Q p ρ H)
    (hok : drawOK l p = true := by kernel_rfl) (hpan : PanOK Q := by repeat (first | with_reducible exact PanOK.ret | with_reducible exact PanOK.no | with_reducible refine PanOK.seq ?_ | with_reducible refine PanOK.blk ?_ | exact PanOK.ret | exact PanOK.no | refine PanOK.seq ?_ | refine PanOK.blk ?_)) : @stop ⟨CW n P (.region id l.toArray true) Q ρ H⟩ :=
  draw_by p hl hm hok hpan hh h

@[go_sem] theorem lookA_eq {a : Addr} {v : Value} {l : List (Addr × Value)} : lookA ((a, v) :: l) a = some v := by simp [lookA]
@[go_sem] theorem lookA_ne {b b' o o' : Nat} {v : Value} {l : List (Addr × Value)} (h : b ≠ b' ∨ o ≠ o') : lookA ((⟨b, o, none⟩, v) :: l) ⟨b', o', none⟩ = lookA l ⟨b', o', none⟩ := by
  simp only [lookA, Addr.mk.injEq, and_true]
  rw [if_neg (by omega)]
theorem heldOK_one {H : Heap} {a : Addr} {v : Value} (h : cellH H a = some v) : heldOK [(a, v)] H := by
  intro a' v' e
  unfold lookA at e
  split at e
  · rename_i ea
    cases e
    exact ea ▸ h
  · simp [lookA] at e
end Go.HL

namespace Go.HL

/-! ### Writing one cell -/
def wr (H : Heap) (a : Addr) (v : Value) : Option Heap := if (cellH H a).isSome = true ∧ frozenH H a = false then some (setH H a v) else none
def wrs (H : Heap) (a : Addr) : List Value → Nat → Option Heap
  | [], _ => some H
  | v :: r, i => (wr H (a.add i) v).bind fun H' => wrs H' a r (i + 1)
theorem storeCells_wrs {a : Addr} : ∀ (vs : List Value) (H : Heap) (i : Nat), (∀ v ∈ vs, oneC v = true) → storeCellsH H a vs i = wrs H a vs i := by
  intro vs
  induction vs with
  | nil => intro H i _; rfl
  | cons v r ih =>
    intro H i h
    have hv := h v (by simp)
    simp only [storeCellsH, wrs, wr, hv, true_and]
    split
    · exact ih _ _ fun u hu => h u (by simp [hu])
    · rfl
section
variable {P : Program} {H : Heap} {t : TypeId} {a : Addr}
theorem storeA_cells {v : Value} {vs : List Value} (hc : v.cells = vs.toArray) (h1 : ∀ u ∈ vs, oneC u = true) : storeA P H t a v = (sizeT P t).bind fun s => chk (vs.length = s) (wrs H a vs 0) := by
  unfold storeA
  cases sizeT P t with
  | none => rfl
  | some s =>
    simp only [hc, List.size_toArray, Option.bind_some, chk]
    split
    · exact storeCells_wrs vs H 0 h1
    · rfl
@[go_sem] theorem wrs_one {v : Value} : wrs H a [v] 0 = wr H a v := by
  have e : a.add 0 = a := rfl
  simp only [wrs, e]
  cases wr H a v <;> rfl
@[go_sem] theorem storeA_int {k : IntKind} {n : Int} : storeA P H t a (.int k n) = (sizeT P t).bind fun s => chk (1 = s) (wr H a (.int k n)) := by
  rw [storeA_cells (vs := [.int k n]) rfl (by simp [oneC]), ← wrs_one]; rfl
@[go_sem] theorem storeA_bool {b : Bool} : storeA P H t a (.bool b) = (sizeT P t).bind fun s => chk (1 = s) (wr H a (.bool b)) := by
  rw [storeA_cells (vs := [.bool b]) rfl (by simp [oneC]), ← wrs_one]; rfl
@[go_sem] theorem storeA_string {b : ByteArray} : storeA P H t a (.string b) = (sizeT P t).bind fun s => chk (1 = s) (wr H a (.string b)) := by
  rw [storeA_cells (vs := [.string b]) rfl (by simp [oneC]), ← wrs_one]; rfl
@[go_sem] theorem storeA_pointer {b : Option Addr} : storeA P H t a (.pointer b) = (sizeT P t).bind fun s => chk (1 = s) (wr H a (.pointer b)) := by
  rw [storeA_cells (vs := [.pointer b]) rfl (by simp [oneC]), ← wrs_one]; rfl
@[go_sem] theorem storeA_slice {b : Option Addr} {m c : Nat} : storeA P H t a (.slice b m c) = (sizeT P t).bind fun s => chk (1 = s) (wr H a (.slice b m c)) := by
  rw [storeA_cells (vs := [.slice b m c]) rfl (by simp [oneC]), ← wrs_one]; rfl
@[go_sem] theorem storeA_map {b : Option Nat} : storeA P H t a (.map b) = (sizeT P t).bind fun s => chk (1 = s) (wr H a (.map b)) := by
  rw [storeA_cells (vs := [.map b]) rfl (by simp [oneC]), ← wrs_one]; rfl
@[go_sem] theorem storeA_func {f : Fn} {x y : Array Value} : storeA P H t a (.func f x y) = (sizeT P t).bind fun s => chk (1 = s) (wr H a (.func f x y)) := by
  rw [storeA_cells (vs := [.func f x y]) rfl (by simp [oneC]), ← wrs_one]; rfl
@[go_sem] theorem storeA_nilFunc : storeA P H t a .nilFunc = (sizeT P t).bind fun s => chk (1 = s) (wr H a .nilFunc) := by
  rw [storeA_cells (vs := [.nilFunc]) rfl (by simp [oneC]), ← wrs_one]; rfl
@[go_sem] theorem storeA_iface {x : TypeId} {y : Value} : storeA P H t a (.iface x y) = (sizeT P t).bind fun s => chk (1 = s) (wr H a (.iface x y)) := by
  rw [storeA_cells (vs := [.iface x y]) rfl (by simp [oneC]), ← wrs_one]; rfl
@[go_sem] theorem storeA_nilIface : storeA P H t a .nilIface = (sizeT P t).bind fun s => chk (1 = s) (wr H a .nilIface) := by
  rw [storeA_cells (vs := [.nilIface]) rfl (by simp [oneC]), ← wrs_one]; rfl
@[go_sem] theorem chk_one {o : Option Heap} : chk (1 = 1) o = o := if_pos rfl
@[go_sem] theorem cells_int {k : IntKind} {n : Int} : (Value.int k n).cells = #[.int k n] := (rfl)
@[go_sem] theorem cells_bool {b : Bool} : (Value.bool b).cells = #[.bool b] := (rfl)
@[go_sem] theorem cells_string {b : ByteArray} : (Value.string b).cells = #[.string b] := (rfl)
@[go_sem] theorem cells_pointer {b : Option Addr} : (Value.pointer b).cells = #[.pointer b] := (rfl)
@[go_sem] theorem cells_slice {b : Option Addr} {m c : Nat} : (Value.slice b m c).cells = #[.slice b m c] := (rfl)
@[go_sem] theorem cells_map {b : Option Nat} : (Value.map b).cells = #[.map b] := (rfl)
@[go_sem] theorem cells_func {f : Fn} {x y : Array Value} : (Value.func f x y).cells = #[.func f x y] := (rfl)
@[go_sem] theorem cells_nilFunc : Value.nilFunc.cells = #[.nilFunc] := (rfl)
@[go_sem] theorem cells_iface {x : TypeId} {y : Value} : (Value.iface x y).cells = #[.iface x y] := (rfl)
@[go_sem] theorem cells_nilIface : Value.nilIface.cells = #[.nilIface] := (rfl)
@[go_sem] theorem cells_agg {x : Array Value} : (Value.agg x).cells = x := (rfl)
end

/-! ### Blocks -/
/-- Block b holds just these cells, and may be written. -/
def Blk (H : Heap) (b : Nat) (t : TypeId) (vs : List Value) : Prop := H[b]? = some (.cells vs.toArray t (0, 0))
section
variable {H : Heap} {b b' : Nat} {t t' : TypeId} {vs vs' : List Value}
theorem Blk.cell (h : Blk H b t vs) (i : Nat) : cellH H ⟨b, i, none⟩ = vs[i]? := by
  unfold cellH; rw [h]; simp
theorem Blk.frozen (h : Blk H b t vs) (i : Nat) : frozenH H ⟨b, i, none⟩ = false := by
  unfold frozenH; rw [h]; simp
theorem Blk.lt (h : Blk H b t vs) : b < H.size := by
  rcases Nat.lt_or_ge b H.size with h' | h'
  · exact h'
  · unfold Blk at h; rw [Array.getElem?_eq_none h'] at h; simp at h
theorem Blk.wr (h : Blk H b t vs) {i : Nat} (hi : i < vs.length) (v : Value) : wr H ⟨b, i, none⟩ v = some (setH H ⟨b, i, none⟩ v) := by
  unfold HL.wr; rw [h.cell, h.frozen, if_pos]; simp [hi]
theorem setH_other {a : Addr} {v : Value} (h : b ≠ a.block) : (setH H a v)[b]? = H[b]? := by
  unfold setH; rw [Array.getElem?_modify]; simp [Ne.symm h]
theorem Blk.set (h : Blk H b t vs) (i : Nat) (v : Value) : Blk (setH H ⟨b, i, none⟩ v) b t (vs.set i v) := by
  unfold Blk setH; rw [Array.getElem?_modify]; unfold Blk at h; simp [h]
theorem Blk.set_other (h : Blk H b t vs) {a : Addr} {v : Value} (hb : b ≠ a.block) : Blk (setH H a v) b t vs := by
  unfold Blk; rw [setH_other hb]; exact h
theorem Blk.push (h : Blk H b t vs) (o : Obj) : Blk (H.push o) b t vs := by
  have := h.lt
  unfold Blk at h ⊢
  rw [Array.getElem?_push]; simp [Nat.ne_of_lt this, h]
theorem Blk.new {l : Array Value} (h : vs.toArray = l) : Blk (H.push (.cells l t)) H.size t vs := by
  unfold Blk; simp [h]
theorem Blk.inj (h : Blk H b t vs) (h' : Blk H b t' vs') : vs = vs' ∧ t = t' := by
  unfold Blk at h h'; rw [h] at h'; simpa using h'
theorem size_setH {a : Addr} {v : Value} : (setH H a v).size = H.size := by unfold setH; simp
end

/-! ### Frames -/
/-- H' has grown out of H, and differs in the blocks of F alone. -/
structure Fr (F : List Nat) (H H' : Heap) : Prop where
  size : H.size ≤ H'.size
  same : ∀ b, b < H.size → b ∉ F → H'[b]? = H[b]?
theorem Fr.refl (F : List Nat) (H : Heap) : Fr F H H := ⟨Nat.le_refl _, fun _ _ _ => rfl⟩
theorem Fr.trans {F : List Nat} {H H' H'' : Heap} (h : Fr F H H') (h' : Fr F H' H'') : Fr F H H'' :=
  ⟨Nat.le_trans h.size h'.size, fun b hb hF => (h'.same b (Nat.lt_of_lt_of_le hb h.size) hF).trans (h.same b hb hF)⟩
theorem Fr.mono {F G : List Nat} {H H' : Heap} (h : Fr F H H') (hs : ∀ b, b < H.size → b ∈ F → b ∈ G) : Fr G H H' :=
  ⟨h.size, fun b hb hG => h.same b hb fun hF => hG (hs b hb hF)⟩
theorem Fr.set {F : List Nat} {H : Heap} {a : Addr} {v : Value} (h : a.block ∈ F) : Fr F H (setH H a v) :=
  ⟨by rw [size_setH]; exact Nat.le_refl _, fun b _ hF => setH_other (fun e => hF (e ▸ h))⟩
theorem Fr.push {F : List Nat} {H : Heap} {o : Obj} : Fr F H (H.push o) :=
  ⟨by simp, fun b hb _ => by rw [Array.getElem?_push]; simp [Nat.ne_of_lt hb]⟩
theorem Fr.set' {F : List Nat} {H H' : Heap} {a : Addr} {v : Value} (h0 : Fr F H H') (h : a.block ∈ F ∨ H.size ≤ a.block) : Fr F H (setH H' a v) :=
  ⟨by rw [size_setH]; exact h0.size, fun b hb hF => by
    have hne : b ≠ a.block := by
      rintro rfl
      rcases h with h | h
      · exact hF h
      · omega
    rw [setH_other hne]; exact h0.same b hb hF⟩
theorem Fr.push' {F : List Nat} {H H' : Heap} {o : Obj} (h0 : Fr F H H') : Fr F H (H'.push o) := h0.trans Fr.push
theorem Fr.blk {F : List Nat} {H H' : Heap} (h : Fr F H H') {b : Nat} {t : TypeId} {vs : List Value} (hb : Blk H b t vs) (hF : b ∉ F) : Blk H' b t vs := by
  unfold Blk; rw [h.same b hb.lt hF]; exact hb
theorem Fr.cell {F : List Nat} {H H' : Heap} (h : Fr F H H') {a : Addr} (hb : a.block < H.size) (hF : a.block ∉ F) : cellH H' a = cellH H a := by
  unfold cellH; rw [h.same _ hb hF]
theorem cell_lt {H : Heap} {a : Addr} {v : Value} (h : cellH H a = some v) : a.block < H.size := by
  rcases Nat.lt_or_ge a.block H.size with h' | h'
  · exact h'
  · unfold cellH at h; rw [Array.getElem?_eq_none h'] at h; simp at h
theorem Fr.cell' {F : List Nat} {H H' : Heap} (h : Fr F H H') {a : Addr} {v : Value} (hc : cellH H a = some v) (hF : a.block ∉ F) : cellH H' a = some v := (h.cell (cell_lt hc) hF).trans hc

/-- The i-th of a list of numbers. -/
def nt (xs : List Int) (i : Nat) : Int := xs.getD i 0
theorem nt_lt {xs : List Int} {i : Nat} (h : i < xs.length) : xs[i]? = some (nt xs i) := by
  unfold nt; rw [List.getD_eq_getElem?_getD, List.getElem?_eq_getElem h]; rfl
theorem nt_set_eq {xs : List Int} {i : Nat} {v : Int} (h : i < xs.length) : nt (xs.set i v) i = v := by
  unfold nt; simp [h]
theorem nt_set_ne {xs : List Int} {i j : Nat} {v : Int} (h : i ≠ j) : nt (xs.set i v) j = nt xs j := by
  unfold nt; simp [List.getElem?_set_ne h]
/-- A block of numbers of 64 bits. -/
def IB (H : Heap) (b : Nat) (t : TypeId) (xs : List Int) : Prop := Blk H b t (xs.map (Value.int .i64))
theorem IB.cell {H : Heap} {b : Nat} {t : TypeId} {xs : List Int} (h : IB H b t xs) {i : Nat} (hi : i < xs.length) : cellH H ⟨b, i, none⟩ = some (.int .i64 (nt xs i)) := by
  rw [Blk.cell h, List.getElem?_map, nt_lt hi]; rfl
theorem IB.wr {H : Heap} {b : Nat} {t : TypeId} {xs : List Int} (h : IB H b t xs) {i : Nat} (hi : i < xs.length) (v : Value) : wr H ⟨b, i, none⟩ v = some (setH H ⟨b, i, none⟩ v) := Blk.wr h (by simpa using hi) v
theorem IB.set {H : Heap} {b : Nat} {t : TypeId} {xs : List Int} (h : IB H b t xs) (i : Nat) (v : Int) : IB (setH H ⟨b, i, none⟩ (.int .i64 v)) b t (xs.set i v) := by
  unfold IB; rw [List.map_set]; exact Blk.set h i _
theorem IB.set_other {H : Heap} {b : Nat} {t : TypeId} {xs : List Int} (h : IB H b t xs) {a : Addr} {v : Value} (hb : b ≠ a.block) : IB (setH H a v) b t xs := Blk.set_other h hb
theorem IB.lt {H : Heap} {b : Nat} {t : TypeId} {xs : List Int} (h : IB H b t xs) : b < H.size := Blk.lt h
end Go.HL

namespace Go.HL

/-! ### A slice literal -/
theorem foldl_set (cs : List Value) : ∀ (pre mid suf : List Value), mid.length = cs.length →
    (cs.zipIdx).foldl (fun (a : Array Value) (x : Value × Nat) => a.setIfInBounds (pre.length + x.2) x.1) (pre ++ mid ++ suf).toArray = (pre ++ cs ++ suf).toArray := by
  have key : ∀ (cs : List Value) (k : Nat) (done mid pre suf : List Value), done.length = k → mid.length = cs.length →
      (cs.zipIdx k).foldl (fun (a : Array Value) (x : Value × Nat) => a.setIfInBounds (pre.length + x.2) x.1) (pre ++ (done ++ mid) ++ suf).toArray = (pre ++ (done ++ cs) ++ suf).toArray := by
    intro cs
    induction cs with
    | nil => intro k done mid pre suf _ hm; have : mid = [] := by cases mid <;> simp_all
             subst this; rfl
    | cons c cs ih =>
      intro k done mid pre suf hk hm
      cases mid with
      | nil => simp at hm
      | cons x mid =>
        simp only [List.zipIdx_cons, List.foldl_cons]
        have e : (pre ++ (done ++ x :: mid) ++ suf).toArray.setIfInBounds (pre.length + k) c = (pre ++ ((done ++ [c]) ++ mid) ++ suf).toArray := by
          simp only [List.setIfInBounds_toArray]
          congr 1
          rw [List.append_assoc, List.set_append_right _ _ (by omega)]
          simp only [Nat.add_sub_cancel_left, List.append_assoc, List.cons_append, List.nil_append]
          rw [List.set_append_right _ _ (by omega)]
          simp [hk]
        rw [e]
        have := ih (k + 1) (done ++ [c]) mid pre suf (by simp [hk]) (by simpa using hm)
        rw [this]
        simp
  intro pre mid suf hm
  simpa using key cs 0 [] mid pre suf rfl hm
def enumV (vs : List Value) : List (Nat × Value) := vs.zipIdx.map fun x => (x.2, x.1)
theorem fill_enum {s : Nat} : ∀ (vs : List Value) (k : Nat) (pre rest : List Value), pre.length = k * s → rest.length = vs.length * s → (∀ v ∈ vs, v.cells.size = s) →
    Instr.fill (fun i => some (i * s, s)) (pre ++ rest).toArray ((vs.zipIdx k).map fun x => (x.2, x.1)) = some (pre ++ vs.flatMap (·.cells.toList)).toArray := by
  intro vs
  induction vs with
  | nil => intro k pre rest _ hr _; have : rest = [] := by cases rest <;> simp_all
           subst this; simp [Instr.fill]
  | cons v vs ih =>
    intro k pre rest hp hr hv
    have hvs := hv v (by simp)
    simp only [List.zipIdx_cons, List.map_cons, Instr.fill]
    have hlen : s ≤ rest.length := by rw [hr]; simp [Nat.add_mul]; 
    rw [if_neg (by simp [hvs, hp]; omega)]
    have hsplit : rest = rest.take s ++ rest.drop s := (List.take_append_drop s rest).symm
    have hf := foldl_set v.cells.toList pre (rest.take s) (rest.drop s) (by simp [hvs]; omega)
    have e : v.cells.zipIdx.foldl (fun cs x => cs.setIfInBounds (k * s + x.2) x.1) (pre ++ rest).toArray = (pre ++ v.cells.toList ++ rest.drop s).toArray := by
      rw [← hf, ← hp]
      rw [← Array.foldl_toList, Array.toList_zipIdx]
      congr 2
      rw [List.append_assoc, List.take_append_drop]
    rw [show (v.cells.zipIdx.foldl (fun cs x => match x with | (c, j) => cs.setIfInBounds (k * s + j) c) (pre ++ rest).toArray) = (pre ++ v.cells.toList ++ rest.drop s).toArray from e]
    rw [ih (k + 1) (pre ++ v.cells.toList) (rest.drop s) (by simp [hp, hvs, Nat.add_mul]) (by simp [hr, Nat.add_mul]) (fun u hu => hv u (by simp [hu]))]
    simp
theorem mkCells_size {z : Array Value} {n : Nat} : (mkCells z n).size = n := by simp [mkCells]
theorem buildSlice_enum {P : Program} {H : Heap} {t : TypeId} {vs : List Value} : buildSliceV P H t vs.length (enumV vs) =
    (elemT P t).bind fun e => (sizeT P e).bind fun s => (zeroT P e).bind fun _ => if vs.length * s ≤ 16777216 then
      (if (vs.all fun v => v.cells.size == s) = true then some (.slice (some ⟨H.size, 0, none⟩) vs.length vs.length, H.push (.cells (vs.flatMap (·.cells.toList)).toArray e)) else buildSliceV P H t vs.length (enumV vs)) else none := by
  conv => lhs; unfold buildSliceV
  cases he : elemT P t with
  | none => rfl
  | some e =>
    cases hs : sizeT P e with
    | none => simp [hs]
    | some s =>
      cases hz : zeroT P e with
      | none => simp [hs, hz]
      | some z =>
        simp only [hs, hz, Option.bind_some]
        split
        · rename_i hl
          split
          · rename_i ha
            rw [List.all_eq_true] at ha
            have := fill_enum (s := s) vs 0 [] (mkCells z.cells (vs.length * s)).toList (by simp) (by simp [mkCells_size]) (fun v hv => by simpa using ha v hv)
            unfold fillV enumV
            simp only [List.nil_append, Array.toArray_toList] at this
            rw [this]
            rfl
          · unfold buildSliceV
            simp only [he, hs, hz, Option.bind_some, if_pos hl]
        · rfl
section
variable {P : Program} {H : Heap} {t : TypeId} {a b c d : Value}
def bsl (P : Program) (H : Heap) (t : TypeId) (vs : List Value) : Option (Value × Heap) :=
  (elemT P t).bind fun e => (sizeT P e).bind fun s => (zeroT P e).bind fun _ =>
    chk (vs.length * s ≤ 16777216 ∧ (vs.all fun v => v.cells.size == s) = true) (some (.slice (some ⟨H.size, 0, none⟩) vs.length vs.length, H.push (.cells (vs.flatMap (·.cells.toList)).toArray e)))
theorem bsl_sound {vs : List Value} {r : Value × Heap} (h : bsl P H t vs = some r) : buildSliceV P H t vs.length (enumV vs) = some r := by
  unfold bsl at h
  rw [buildSlice_enum]
  cases he : elemT P t with
  | none => simp [he] at h
  | some e =>
    cases hs : sizeT P e with
    | none => simp [he, hs] at h
    | some s =>
      cases hz : zeroT P e with
      | none => simp [he, hs, hz] at h
      | some z =>
        simp only [he, hs, hz, Option.bind_some] at h ⊢
        obtain ⟨⟨h1, h2⟩, h3⟩ := chk_some h
        rw [if_pos h1, if_pos h2]
        exact h3
/-- One element of one cell. -/
theorem bs_one {e : TypeId} {z : Value} (he : elemT P t = some e) (hs : sizeT P e = some 1) (hz : zeroT P e = some z) (ha : a.cells = #[a]) :
    buildSliceV P H t 1 [(0, a)] = some (.slice (some ⟨H.size, 0, none⟩) 1 1, H.push (.cells #[a] e)) := by
  refine bsl_sound (vs := [a]) ?_
  simp [bsl, he, hs, hz, chk, ha]
theorem bs_two {e : TypeId} {z : Value} (he : elemT P t = some e) (hs : sizeT P e = some 1) (hz : zeroT P e = some z) (ha : a.cells = #[a]) (hb : b.cells = #[b]) :
    buildSliceV P H t 2 [(0, a), (1, b)] = some (.slice (some ⟨H.size, 0, none⟩) 2 2, H.push (.cells #[a, b] e)) := by
  refine bsl_sound (vs := [a, b]) ?_
  simp [bsl, he, hs, hz, chk, ha, hb]
theorem bs_three {e : TypeId} {z : Value} (he : elemT P t = some e) (hs : sizeT P e = some 1) (hz : zeroT P e = some z) (ha : a.cells = #[a]) (hb : b.cells = #[b]) (hc : c.cells = #[c]) :
    buildSliceV P H t 3 [(0, a), (1, b), (2, c)] = some (.slice (some ⟨H.size, 0, none⟩) 3 3, H.push (.cells #[a, b, c] e)) := by
  refine bsl_sound (vs := [a, b, c]) ?_
  simp [bsl, he, hs, hz, chk, ha, hb, hc]
theorem bs_four {e : TypeId} {z : Value} (he : elemT P t = some e) (hs : sizeT P e = some 1) (hz : zeroT P e = some z) (ha : a.cells = #[a]) (hb : b.cells = #[b]) (hc : c.cells = #[c]) (hd : d.cells = #[d]) :
    buildSliceV P H t 4 [(0, a), (1, b), (2, c), (3, d)] = some (.slice (some ⟨H.size, 0, none⟩) 4 4, H.push (.cells #[a, b, c, d] e)) := by
  refine bsl_sound (vs := [a, b, c, d]) ?_
  simp [bsl, he, hs, hz, chk, ha, hb, hc, hd]
theorem bs_zero {e : TypeId} {s : Nat} {z : Value} (he : elemT P t = some e) (hs : sizeT P e = some s) (hz : zeroT P e = some z) :
    buildSliceV P H t 0 [] = some (.slice (some ⟨H.size, 0, none⟩) 0 0, H.push (.cells #[] e)) := by
  refine bsl_sound (vs := []) ?_
  simp [bsl, he, hs, hz, chk]
end

/-! ### make -/
@[go_sem] theorem makeV_int {P : Program} {H : Heap} {t : TypeId} {k k' : IntKind} {l c : Int} : makeV P H t (.int k l) (.int k' c) = (elemT P t).bind fun e => (bytesT P e).bind fun b => (sizeT P e).bind fun s => (zeroT P e).bind fun z =>
    chk (0 ≤ l ∧ l ≤ c ∧ c ≤ 281474976710656 ∧ (b : Int) * c ≤ 281474976710656) (some (.slice (some ⟨H.size, 0, none⟩) l.toNat c.toNat, H.push (.cells (mkCells z.cells (c.toNat * s)) e))) := (rfl)
@[go_sem] theorem mkCells_one {z : Value} {n : Nat} : mkCells #[z] n = (List.replicate n z).toArray := by
  unfold mkCells
  apply Array.ext'
  simp only [Array.toList_map, Array.toList_range]
  apply List.ext_getElem (by simp)
  intro i h1 h2
  simp [Nat.mod_one]
attribute [go_sem] Int.natCast_zero

/-! ### A struct or an array, part by part -/
def setR (cells : List Value) (off : Nat) : List Value → List Value
  | [] => cells
  | v :: vs => setR (cells.set off v) (off + 1) vs
def fillL (place : Nat → Option (Nat × Nat)) (cells : List Value) : List (Nat × Value) → Option (List Value)
  | [] => some cells
  | x :: r => (place x.1).bind fun p => chk (x.2.cells.size = p.2 ∧ p.1 + p.2 ≤ cells.length) (fillL place (setR cells p.1 x.2.cells.toList) r)
theorem setR_fold : ∀ (vs : List Value) (cells : List Value) (off k : Nat),
    (vs.zipIdx k).foldl (fun (a : Array Value) (x : Value × Nat) => a.setIfInBounds (off + x.2) x.1) cells.toArray = (setR cells (off + k) vs).toArray := by
  intro vs
  induction vs with
  | nil => intro cells off k; rfl
  | cons v vs ih =>
    intro cells off k
    simp only [List.zipIdx_cons, List.foldl_cons, List.setIfInBounds_toArray, setR]
    rw [ih]
    rfl
theorem fill_list {place : Nat → Option (Nat × Nat)} : ∀ (parts : List (Nat × Value)) (cells : List Value) (r : List Value), fillL place cells parts = some r → Instr.fill place cells.toArray parts = some r.toArray := by
  intro parts
  induction parts with
  | nil => intro cells r h; simp only [fillL, Option.some.injEq] at h; subst h; rfl
  | cons x rest ih =>
    intro cells r h
    obtain ⟨i, v⟩ := x
    simp only [fillL] at h
    cases hp : place i with
    | none => simp [hp] at h
    | some p =>
      obtain ⟨off, size⟩ := p
      simp only [hp, Option.bind_some] at h
      obtain ⟨⟨h1, h2⟩, h3⟩ := chk_some h
      simp only [Instr.fill, hp]
      rw [if_neg (by simp [h1]; omega)]
      have e : v.cells.zipIdx.foldl (fun cs x => cs.setIfInBounds (off + x.2) x.1) cells.toArray = (setR cells off v.cells.toList).toArray := by
        rw [← Array.foldl_toList, Array.toList_zipIdx]
        exact setR_fold v.cells.toList cells off 0
      rw [show (v.cells.zipIdx.foldl (fun cs x => match x with | (c, j) => cs.setIfInBounds (off + j) c) cells.toArray) = (setR cells off v.cells.toList).toArray from e]
      exact ih _ _ h3
def buildL (P : Program) (t : TypeId) (parts : List (Nat × Value)) : Option Value :=
  match placesT P t with
  | some ps => (zeroT P t).bind fun z => (fillL (ps[·]?) z.cells.toList parts).map fun l => .agg l.toArray
  | none => (arrS P t).bind fun e => (zeroT P t).bind fun z => (fillL (fun i => some (i * e.2, e.2)) z.cells.toList parts).map fun l => .agg l.toArray
theorem build_of {P : Program} {t : TypeId} {parts : List (Nat × Value)} {v : Value} (h : buildL P t parts = some v) : buildV P t parts = some v := by
  unfold buildL at h
  unfold buildV
  split at h
  · rename_i ps hps
    simp only [Option.bind_eq_some_iff, Option.map_eq_some_iff] at h
    obtain ⟨z, hz, l, hl, rfl⟩ := h
    have := fill_list parts z.cells.toList l hl
    simp only [Array.toArray_toList] at this
    simp only [hps, hz, Option.bind_some, this, Option.map_some]
  · rename_i hps
    simp only [Option.bind_eq_some_iff, Option.map_eq_some_iff] at h
    obtain ⟨e, he, z, hz, l, hl, rfl⟩ := h
    have := fill_list parts z.cells.toList l hl
    simp only [Array.toArray_toList] at this
    simp only [hps, he, hz, Option.bind_some, this, Option.map_some]

/-! ### append -/
/-- What append needs to know of the element type: its number, its cells, its bytes, its zero. -/
structure ElT (P : Program) (t : TypeId) (e size bytes : Nat) (z : Value) : Prop where
  elem : elemT P t = some e
  size : sizeT P e = some size
  bytes : bytesT P e = some bytes
  zero : zeroT P e = some z
theorem ElT.under {P : Program} {t : TypeId} {e size bytes : Nat} {z : Value} (h : ElT P t e size bytes z) : P.underlying t = some (.slice e) := by
  have he := h.elem
  unfold elemT at he
  cases hu : P.underlying t with
  | none => simp [hu] at he
  | some d => cases d <;> simp [hu] at he; subst he; rfl
theorem cellsH_at {c : Addr → Option Value} {b : Nat} : ∀ (l : List Value) (o i : Nat), (∀ j (h : j < l.length), c ⟨b, o + i + j, none⟩ = some l[j]) → cellsH c ⟨b, o, none⟩ i l.length = some l := by
  intro l
  induction l with
  | nil => intro o i _; rfl
  | cons v l ih =>
    intro o i h
    simp only [List.length_cons, cellsH]
    have h0 := h 0 (by simp)
    simp only [List.getElem_cons_zero, Nat.add_zero] at h0
    rw [addr_add, h0]
    simp only [Option.bind_some]
    rw [ih o (i + 1) (fun j hj => by have := h (j + 1) (by simpa using hj); simpa [Nat.add_assoc, Nat.add_comm 1 j] using this)]
    rfl
/-- append of one value that lies in a block of its own; there is room. -/
theorem app_fit1 {P : Program} {H H' : Heap} {t e bytes : Nat} {z v : Value} {b o len cap xb : Nat} {k : Value → Heap → Prop} (hT : ElT P t e 1 bytes z) (hfit : len < cap)
    (hx : cellH H ⟨xb, 0, none⟩ = some v) (hv : oneC v = true) (hw : wr H ⟨b, o + len, none⟩ v = some H') (hk : k (.slice (some ⟨b, o, none⟩) (len + 1) cap) H') :
    @appB P t t (.slice (some ⟨b, o, none⟩) len cap) (.slice (some ⟨xb, 0, none⟩) 1 1) ⟨H⟩ ⟨k⟩ := by
  show appW P H t t _ _ k
  unfold appW
  simp only [someW_iff]
  refine ⟨e, hT.elem, 1, hT.size, bytes, hT.bytes, z, hT.zero, 1, rfl, [v], ?_, .slice e, hT.under, by simp, ?_⟩
  · show cellsH (cellH H) ⟨xb, 0, none⟩ 0 1 = some [v]
    have := cellsH_at (c := cellH H) (b := xb) [v] 0 0 (by intro j hj; simp at hj; subst hj; simpa using hx)
    simpa using this
  · rw [if_pos (by omega)]
    refine ⟨H', ?_, hk⟩
    rw [storeCells_wrs _ _ _ (by simp [hv]), wrs_one, addr_add, Nat.mul_one]
    exact hw

/-- What holds behind a piece of code that cannot panic. -/
theorem cut_by {n : Nat} {P : Program} {c : Code} {K : En → Heap → Prop} {Q : Exit → En → Heap → Prop} {ρ : En} {H : Heap} (R : En → Heap → Prop)
    (h : @stop ⟨CW n P c (seqQ (fun ρ H => @stop ⟨R ρ H⟩) (fun _ _ _ => False)) ρ H⟩) (h2 : ∀ ρ H, R ρ H → K ρ H) : @stop ⟨CW n P c (seqQ K Q) ρ H⟩ := by
  refine CW.mono ?_ h
  intro e ρ H hx
  cases e <;> first | exact h2 _ _ hx | exact hx.elim
/-- The same in front of a piece of code that is worked out. -/
theorem cut_cw {n : Nat} {P : Program} {c : Code} {K : En → Heap → Prop} {Q : Exit → En → Heap → Prop} {ρ : En} {H : Heap} (R : En → Heap → Prop)
    (h : cw n P c (seqQ (fun ρ H => @stop ⟨R ρ H⟩) Q) ρ H) (h2 : ∀ ρ H, R ρ H → K ρ H) : CW n P c (seqQ K Q) ρ H := by
  refine CW.mono ?_ (cw_sound c _ _ _ h)
  intro e ρ H hx
  cases e <;> first | exact h2 _ _ hx | exact hx
end Go.HL

namespace Go.HL

theorem growBy_le {n : Nat} : ∀ (r c : Nat), c ≤ 2 * n + 200 → Builtin.growBy n r c ≤ 2 * n + 200 := by
  intro r
  induction r with
  | zero => intro c hc; exact hc
  | succ r ih =>
    intro c hc
    unfold Builtin.growBy
    split
    · exact hc
    · exact ih _ (by omega)
theorem nextcap_le {n c : Nat} (h : c < n) : Builtin.nextslicecap n c ≤ 2 * n + 200 := by
  unfold Builtin.nextslicecap
  split
  · omega
  · split
    · omega
    · exact growBy_le 4 c (by omega)

/-- The blocks that a slice lies in. -/
def own : Value → List Nat
  | .slice (some a) _ _ => [a.block]
  | _ => []
/-- A slice that may be written and grown, its cells: each element has z of them. -/
structure Vec (H : Heap) (e z : Nat) (v : Value) (vs : List Value) : Prop where
  ex : (v = .slice none 0 0 ∧ vs = []) ∨ ∃ b len cap pre rest, v = .slice (some ⟨b, pre.length, none⟩) len cap ∧ Blk H b e (pre ++ vs ++ rest) ∧ vs.length = len * z ∧ rest.length = (cap - len) * z ∧ len ≤ cap
theorem Vec.nil {H : Heap} {e z : Nat} : Vec H e z (.slice none 0 0) [] := ⟨.inl ⟨rfl, rfl⟩⟩
theorem Vec.lt {H : Heap} {e z : Nat} {v : Value} {vs : List Value} (h : Vec H e z v vs) : ∀ b ∈ own v, b < H.size := by
  rcases h.ex with ⟨rfl, _⟩ | ⟨b, len, cap, pre, rest, rfl, hb, _⟩
  · simp [own]
  · simp [own]; exact hb.lt
theorem Vec.frame {H H' : Heap} {e z : Nat} {v : Value} {vs : List Value} (h : Vec H e z v vs) {F : List Nat} (hf : Fr F H H') (hd : ∀ b ∈ own v, b ∉ F) : Vec H' e z v vs := by
  rcases h.ex with h1 | ⟨b, len, cap, pre, rest, rfl, hb, h2⟩
  · exact ⟨.inl h1⟩
  · exact ⟨.inr ⟨b, len, cap, pre, rest, rfl, hf.blk hb (hd b (by simp [own])), h2⟩⟩
theorem Vec.len {H : Heap} {e z : Nat} {v : Value} {vs : List Value} (h : Vec H e z v vs) : ∃ a len cap, v = .slice a len cap ∧ vs.length = len * z := by
  rcases h.ex with ⟨rfl, rfl⟩ | ⟨b, len, cap, pre, rest, rfl, _, h2, _⟩
  · exact ⟨_, _, _, rfl, by simp⟩
  · exact ⟨_, _, _, rfl, h2⟩
/-- Its cells, one by one. -/
theorem Vec.cell {H : Heap} {e z : Nat} {v : Value} {vs : List Value} (h : Vec H e z v vs) (hn : vs ≠ []) : ∃ b o len cap, v = .slice (some ⟨b, o, none⟩) len cap ∧ vs.length = len * z ∧ ∀ i, i < vs.length → cellH H ⟨b, o + i, none⟩ = vs[i]? := by
  rcases h.ex with ⟨rfl, rfl⟩ | ⟨b, len, cap, pre, rest, rfl, hb, h2, _⟩
  · simp at hn
  · refine ⟨b, pre.length, len, cap, rfl, h2, fun i hi => ?_⟩
    rw [hb.cell, List.append_assoc, List.getElem?_append_right (by omega), Nat.add_sub_cancel_left, List.getElem?_append_left hi]

theorem wrs_blk {e b : Nat} : ∀ (new pre old rest : List Value) (H : Heap), Blk H b e (pre ++ old ++ rest) → old.length = new.length →
    ∃ H', wrs H ⟨b, pre.length, none⟩ new 0 = some H' ∧ Blk H' b e (pre ++ new ++ rest) ∧ Fr [b] H H' := by
  have key : ∀ (new pre old rest done : List Value) (H : Heap), Blk H b e (pre ++ (done ++ (old ++ rest))) → old.length = new.length →
      ∃ H', wrs H ⟨b, pre.length, none⟩ new done.length = some H' ∧ Blk H' b e (pre ++ (done ++ (new ++ rest))) ∧ Fr [b] H H' := by
    intro new
    induction new with
    | nil => intro pre old rest done H hb hl; have : old = [] := by cases old <;> simp_all
             subst this; exact ⟨H, rfl, hb, Fr.refl _ _⟩
    | cons v new ih =>
      intro pre old rest done H hb hl
      cases old with
      | nil => simp at hl
      | cons u old =>
        have hw := hb.wr (i := pre.length + done.length) (by simp) v
        have hs := hb.set (pre.length + done.length) v
        have e1 : (pre ++ (done ++ (u :: old ++ rest))).set (pre.length + done.length) v = pre ++ ((done ++ [v]) ++ (old ++ rest)) := by
          rw [List.set_append_right _ _ (by omega), Nat.add_sub_cancel_left, List.set_append_right _ _ (by omega)]
          simp
        rw [e1] at hs
        obtain ⟨H', h1, h2, h3⟩ := ih pre old rest (done ++ [v]) _ hs (by simpa using hl)
        refine ⟨H', ?_, by simpa using h2, (Fr.set (by simp)).trans h3⟩
        simp only [wrs]
        rw [addr_add, hw, Option.bind_some]
        simpa using h1
  intro new pre old rest H hb hl
  have := key new pre old rest [] H (by simpa [List.append_assoc] using hb) hl
  simpa [List.append_assoc] using this

theorem zeroCells_size {z : Array Value} {n : Nat} : (Builtin.zeroCells z n).size = n * z.size := by simp [Builtin.zeroCells]

/-- append: what it answers is a slice with the new cells behind; it lies where the old one lay, or in a block of its own. -/
theorem app_vec {P : Program} {H : Heap} {t xt e z bytes n : Nat} {zero s x : Value} {vs new : List Value} {d : TypeDesc} {k : Value → Heap → Prop} (hT : ElT P t e z bytes zero) (hz : zero.cells.size = z) (hv : Vec H e z s vs)
    (hx : lenS x = some n) (hsrc : srcCells H z n x = some new) (hu : P.underlying xt = some d) (hnk : ∀ kk, d ≠ .int kk) (hone : ∀ u ∈ new, oneC u = true) (hnew : new.length = n * z)
    (hlen : ∀ a l c, s = .slice a l c → (2 * (l + n) + 200) * (bytes + 1) ≤ 281474976710656)
    (hk : ∀ v' H', Vec H' e z v' (vs ++ new) → Fr (own s) H H' → (∀ b ∈ own v', b ∈ own s ∨ H.size ≤ b) → (∀ a l c, s = .slice a l c → ∃ a' c', v' = .slice a' (l + n) c') → k v' H') :
    @appB P t xt s x ⟨H⟩ ⟨k⟩ := by
  show appW P H t xt _ _ k
  have fresh : ∀ a l c old, s = .slice a l c → c < l + n → srcCells H z l s = some old → old = vs → appW P H t xt s x k := by
    intro a l c old hs hc hold ho
    subst ho
    have hl := hlen a l c hs
    have hl2 : 2 * (l + n) + 200 ≤ 281474976710656 := Nat.le_trans (Nat.le_mul_of_pos_right _ (by omega)) hl
    subst hs
    unfold appW
    simp only [someW_iff]
    refine ⟨e, hT.elem, z, hT.size, bytes, hT.bytes, zero, hT.zero, n, hx, new, hsrc, d, hu, hnk, ?_⟩
    rw [if_neg (by omega)]
    have h3 := nextcap_le hc
    refine ⟨?_, by omega, fun _ => by omega, old, hold, ?_⟩
    · have : Builtin.nextslicecap (l + n) c * bytes ≤ (2 * (l + n) + 200) * bytes := Nat.mul_le_mul_right _ h3
      have h4 : (2 * (l + n) + 200) * bytes ≤ (2 * (l + n) + 200) * (bytes + 1) := Nat.mul_le_mul_left _ (by omega)
      omega
    · intro newCap hc1 _
      have hvl : old.length = l * z := by
        obtain ⟨a', l', c', he, hl'⟩ := hv.len
        simp only [Value.slice.injEq] at he
        rw [he.2.1]; exact hl'
      refine hk _ _ ⟨.inr ⟨H.size, l + n, newCap, [], (Builtin.zeroCells zero.cells (newCap - (l + n))).toList, rfl, ?_, by simp [hvl, hnew, Nat.add_mul], by simp [zeroCells_size, hz], hc1⟩⟩ Fr.push ?_ ?_
      · refine Blk.new ?_
        apply Array.ext'
        simp
      · intro b hb
        simp [own] at hb
        exact .inr (by omega)
      · intro a' l' c' he
        simp only [Value.slice.injEq] at he
        obtain ⟨_, rfl, _⟩ := he
        exact ⟨_, _, rfl⟩
  rcases hv.ex with ⟨rfl, rfl⟩ | ⟨b, len, cap, pre, rest, rfl, hb, hl, hr, hle⟩
  · by_cases hn : n = 0
    · subst hn
      have hn0 : new = [] := by cases new <;> simp_all
      subst hn0
      unfold appW
      simp only [someW_iff]
      refine ⟨e, hT.elem, z, hT.size, bytes, hT.bytes, zero, hT.zero, 0, hx, [], hsrc, d, hu, hnk, ?_⟩
      rw [if_pos (by omega)]
      refine hk _ _ Vec.nil (Fr.refl _ _) (by simp [own]) ?_
      intro a l c he
      simp only [Value.slice.injEq] at he
      obtain ⟨_, rfl, _⟩ := he
      exact ⟨_, _, rfl⟩
    · exact fresh none 0 0 [] rfl (by omega) rfl rfl
  · by_cases hfit : len + n ≤ cap
    · unfold appW
      simp only [someW_iff]
      refine ⟨e, hT.elem, z, hT.size, bytes, hT.bytes, zero, hT.zero, n, hx, new, hsrc, d, hu, hnk, ?_⟩
      rw [if_pos hfit]
      have h1 : n * z ≤ rest.length := by rw [hr]; exact Nat.mul_le_mul_right _ (by omega)
      have hb' : Blk H b e ((pre ++ vs) ++ rest.take (n * z) ++ rest.drop (n * z)) := by
        rw [List.append_assoc, List.take_append_drop]; exact hb
      obtain ⟨H', hw, hb2, hf⟩ := wrs_blk new (pre ++ vs) _ _ H hb' (by simp [hnew, h1])
      refine ⟨H', ?_, ?_⟩
      · rw [storeCells_wrs _ _ _ hone, addr_add, ← hl]
        rw [List.length_append] at hw
        exact hw
      · refine hk _ _ ⟨.inr ⟨b, len + n, cap, pre, rest.drop (n * z), rfl, ?_, by simp [hl, hnew, Nat.add_mul], ?_, hfit⟩⟩ (by simpa [own] using hf) (by simp [own]) ?_
        · simpa [List.append_assoc] using hb2
        · simp only [List.length_drop, hr]
          rw [← Nat.sub_mul]
          congr 1
          omega
        · intro a l c he
          simp only [Value.slice.injEq] at he
          obtain ⟨_, rfl, _⟩ := he
          exact ⟨_, _, rfl⟩
    · refine fresh _ len cap vs rfl (by omega) ?_ rfl
      show cellsH (cellH H) ⟨b, pre.length, none⟩ 0 (len * z) = some vs
      rw [← hl]
      refine cellsH_at vs pre.length 0 ?_
      intro j hj
      rw [hb.cell, Nat.add_zero, List.append_assoc, List.getElem?_append_right (by omega), Nat.add_sub_cancel_left, List.getElem?_append_left hj, List.getElem?_eq_getElem hj]

/-- append of one element of one cell, out of a block that has just been made. -/
theorem app_one {P : Program} {H : Heap} {t e bytes : Nat} {zero s v : Value} {vs : List Value} {xb : Nat} {k : Value → Heap → Prop} (hT : ElT P t e 1 bytes zero) (hz : zero.cells.size = 1) (hv : Vec H e 1 s vs)
    (hx : cellH H ⟨xb, 0, none⟩ = some v) (h1 : oneC v = true) (hlen : (2 * (vs.length + 1) + 200) * (bytes + 1) ≤ 281474976710656)
    (hk : ∀ v' H', Vec H' e 1 v' (vs ++ [v]) → Fr (own s) H H' → (∀ b ∈ own v', b ∈ own s ∨ H.size ≤ b) → (∃ a' c', v' = .slice a' (vs.length + 1) c') → k v' H') :
    @appB P t t s (.slice (some ⟨xb, 0, none⟩) 1 1) ⟨H⟩ ⟨k⟩ := by
  obtain ⟨a, len, cap, rfl, hl⟩ := hv.len
  rw [Nat.mul_one] at hl
  refine app_vec (n := 1) (new := [v]) hT hz hv rfl ?_ hT.under (by simp) (by simp [h1]) rfl ?_ ?_
  · show cellsH (cellH H) ⟨xb, 0, none⟩ 0 1 = some [v]
    have := cellsH_at (c := cellH H) (b := xb) [v] 0 0 (by intro j hj; simp at hj; subst hj; simpa using hx)
    simpa using this
  · intro a' l c he
    simp only [Value.slice.injEq] at he
    obtain ⟨_, rfl, _⟩ := he
    rw [← hl]; exact hlen
  · intro v' H' g1 g2 g3 g4
    obtain ⟨a', c', rfl⟩ := g4 _ _ _ rfl
    exact hk _ _ g1 g2 g3 ⟨a', c', by rw [hl]⟩

/-- append of the elements of a literal. -/
theorem app_lit {P : Program} {H : Heap} {t e z bytes n : Nat} {zero s : Value} {vs : List Value} {new : List Value} {k : Value → Heap → Prop} (hT : ElT P t e z bytes zero) (hz : zero.cells.size = z) (hv : Vec H e z s vs)
    (hone : ∀ u ∈ new, oneC u = true) (hnew : new.length = n * z) (hlen : ∀ a l c, s = .slice a l c → (2 * (l + n) + 200) * (bytes + 1) ≤ 281474976710656)
    (hk : ∀ v' H', Vec H' e z v' (vs ++ new) → Fr (own s) H H' → (∀ b ∈ own v', b ∈ own s ∨ H.size ≤ b) → (∀ a l c, s = .slice a l c → ∃ a' c', v' = .slice a' (l + n) c') → k v' H') :
    @appB P t t s (.slice (some ⟨H.size, 0, none⟩) n n) ⟨H.push (.cells new.toArray e)⟩ ⟨k⟩ := by
  have hb : Blk (H.push (.cells new.toArray e)) H.size e new := Blk.new rfl
  refine app_vec (n := n) (new := new) hT hz (hv.frame (F := []) Fr.push (by simp)) rfl ?_ hT.under (by simp) hone hnew hlen ?_
  · show cellsH (cellH _) ⟨H.size, 0, none⟩ 0 (n * z) = some new
    rw [← hnew]
    refine cellsH_at new 0 0 ?_
    intro j hj
    rw [hb.cell]; simp [hj]
  · intro v' H' g1 g2 g3 g4
    refine hk v' H' g1 ⟨Nat.le_trans (by simp) g2.size, fun b hb' hF => ?_⟩ (fun b hb' => (g3 b hb').imp id (fun h => Nat.le_trans (by simp) h)) g4
    rw [g2.same b (by simp; omega) hF, Array.getElem?_push]
    simp [Nat.ne_of_lt hb']
theorem app_lit1 {P : Program} {H : Heap} {t e bytes : Nat} {zero s v : Value} {vs : List Value} {k : Value → Heap → Prop} (hT : ElT P t e 1 bytes zero) (hz : zero.cells.size = 1) (hv : Vec H e 1 s vs)
    (h1 : oneC v = true) (hlen : (2 * (vs.length + 1) + 200) * (bytes + 1) ≤ 281474976710656)
    (hk : ∀ v' H', Vec H' e 1 v' (vs ++ [v]) → Fr (own s) H H' → (∀ b ∈ own v', b ∈ own s ∨ H.size ≤ b) → (∃ a' c', v' = .slice a' (vs.length + 1) c') → k v' H') :
    @appB P t t s (.slice (some ⟨H.size, 0, none⟩) 1 1) ⟨H.push (.cells #[v] e)⟩ ⟨k⟩ := by
  obtain ⟨a, len, cap, rfl, hl⟩ := hv.len
  rw [Nat.mul_one] at hl
  refine app_lit (n := 1) (new := [v]) hT hz hv (by simp [h1]) rfl ?_ ?_
  · intro a' l c he
    simp only [Value.slice.injEq] at he
    obtain ⟨_, rfl, _⟩ := he
    rw [← hl]; exact hlen
  · intro v' H' g1 g2 g3 g4
    obtain ⟨a', c', rfl⟩ := g4 _ _ _ rfl
    exact hk _ _ g1 g2 g3 ⟨a', c', by rw [hl]⟩

/-! ### Slices of numbers -/
abbrev IV (H : Heap) (e : Nat) (v : Value) (xs : List Int) : Prop := Vec H e 1 v (xs.map (Value.int .i64))
theorem IV.form {H : Heap} {e : Nat} {v : Value} {xs : List Int} (h : IV H e v xs) : ∃ a cap, v = .slice a xs.length cap := by
  obtain ⟨a, len, cap, rfl, hl⟩ := h.len
  simp at hl; subst hl
  exact ⟨a, cap, rfl⟩
theorem IV.at {H : Heap} {e : Nat} {v : Value} {xs : List Int} (h : IV H e v xs) {i : Nat} (hi : i < xs.length) : ∃ b o cap, v = .slice (some ⟨b, o, none⟩) xs.length cap ∧ cellH H ⟨b, o + i, none⟩ = some (.int .i64 (nt xs i)) := by
  obtain ⟨b, o, len, cap, rfl, hl, hc⟩ := h.cell (by intro e; rw [List.map_eq_nil_iff] at e; subst e; simp at hi)
  simp at hl; subst hl
  refine ⟨b, o, cap, rfl, ?_⟩
  rw [hc i (by simpa using hi), List.getElem?_map, nt_lt hi]; rfl
theorem nt_append_left {xs ys : List Int} {i : Nat} (h : i < xs.length) : nt (xs ++ ys) i = nt xs i := by
  unfold nt; simp [List.getElem?_append_left h]
theorem nt_append_right {xs : List Int} {y : Int} : nt (xs ++ [y]) xs.length = y := by
  unfold nt; simp

/-- Writing one cell of a slice whose elements have one. -/
theorem Vec.put1 {H : Heap} {e : Nat} {v : Value} {vs : List Value} (h : Vec H e 1 v vs) {i : Nat} (hi : i < vs.length) (u : Value) :
    ∃ b o cap, v = .slice (some ⟨b, o, none⟩) vs.length cap ∧ wr H ⟨b, o + i, none⟩ u = some (setH H ⟨b, o + i, none⟩ u) ∧ Vec (setH H ⟨b, o + i, none⟩ u) e 1 v (vs.set i u) ∧ cellH H ⟨b, o + i, none⟩ = vs[i]? := by
  rcases h.ex with ⟨rfl, rfl⟩ | ⟨b, len, cap, pre, rest, rfl, hb, h2, h3, h4⟩
  · simp at hi
  · rw [Nat.mul_one] at h2
    subst h2
    refine ⟨b, pre.length, cap, rfl, hb.wr (by simp; omega) u, ⟨.inr ⟨b, vs.length, cap, pre, rest, rfl, ?_, by simp, h3, h4⟩⟩, ?_⟩
    · have := hb.set (pre.length + i) u
      rwa [List.append_assoc, List.set_append_right _ _ (by omega), Nat.add_sub_cancel_left, List.set_append_left _ _ hi, ← List.append_assoc] at this
    · rw [hb.cell, List.append_assoc, List.getElem?_append_right (by omega), Nat.add_sub_cancel_left, List.getElem?_append_left hi]
theorem IV.put {H : Heap} {e : Nat} {v : Value} {xs : List Int} (h : IV H e v xs) {i : Nat} (hi : i < xs.length) (u : Int) :
    ∃ b o cap, v = .slice (some ⟨b, o, none⟩) xs.length cap ∧ wr H ⟨b, o + i, none⟩ (.int .i64 u) = some (setH H ⟨b, o + i, none⟩ (.int .i64 u)) ∧ IV (setH H ⟨b, o + i, none⟩ (.int .i64 u)) e v (xs.set i u) ∧ cellH H ⟨b, o + i, none⟩ = some (.int .i64 (nt xs i)) := by
  obtain ⟨b, o, cap, h1, h2, h3, h4⟩ := Vec.put1 h (i := i) (by simpa using hi) (.int .i64 u)
  refine ⟨b, o, cap, by simpa using h1, h2, ?_, ?_⟩
  · unfold IV; rw [List.map_set]; exact h3
  · rw [h4, List.getElem?_map, nt_lt hi]; rfl
/-- Slices of bools. -/
def bt (xs : List Bool) (i : Nat) : Bool := xs.getD i false
theorem bt_lt {xs : List Bool} {i : Nat} (h : i < xs.length) : xs[i]? = some (bt xs i) := by
  unfold bt; rw [List.getD_eq_getElem?_getD, List.getElem?_eq_getElem h]; rfl
theorem bt_set_eq {xs : List Bool} {i : Nat} {v : Bool} (h : i < xs.length) : bt (xs.set i v) i = v := by
  unfold bt; simp [h]
theorem bt_set_ne {xs : List Bool} {i j : Nat} {v : Bool} (h : i ≠ j) : bt (xs.set i v) j = bt xs j := by
  unfold bt; simp [List.getElem?_set_ne h]
abbrev BV (H : Heap) (e : Nat) (v : Value) (xs : List Bool) : Prop := Vec H e 1 v (xs.map Value.bool)
theorem BV.form {H : Heap} {e : Nat} {v : Value} {xs : List Bool} (h : BV H e v xs) : ∃ a cap, v = .slice a xs.length cap := by
  obtain ⟨a, len, cap, rfl, hl⟩ := h.len
  simp at hl; subst hl
  exact ⟨a, cap, rfl⟩
theorem BV.at {H : Heap} {e : Nat} {v : Value} {xs : List Bool} (h : BV H e v xs) {i : Nat} (hi : i < xs.length) : ∃ b o cap, v = .slice (some ⟨b, o, none⟩) xs.length cap ∧ cellH H ⟨b, o + i, none⟩ = some (.bool (bt xs i)) := by
  obtain ⟨b, o, len, cap, rfl, hl, hc⟩ := h.cell (by intro e; rw [List.map_eq_nil_iff] at e; subst e; simp at hi)
  simp at hl; subst hl
  refine ⟨b, o, cap, rfl, ?_⟩
  rw [hc i (by simpa using hi), List.getElem?_map, bt_lt hi]; rfl
theorem BV.put {H : Heap} {e : Nat} {v : Value} {xs : List Bool} (h : BV H e v xs) {i : Nat} (hi : i < xs.length) (u : Bool) :
    ∃ b o cap, v = .slice (some ⟨b, o, none⟩) xs.length cap ∧ wr H ⟨b, o + i, none⟩ (.bool u) = some (setH H ⟨b, o + i, none⟩ (.bool u)) ∧ BV (setH H ⟨b, o + i, none⟩ (.bool u)) e v (xs.set i u) ∧ cellH H ⟨b, o + i, none⟩ = some (.bool (bt xs i)) := by
  obtain ⟨b, o, cap, h1, h2, h3, h4⟩ := Vec.put1 h (i := i) (by simpa using hi) (.bool u)
  refine ⟨b, o, cap, by simpa using h1, h2, ?_, ?_⟩
  · unfold BV; rw [List.map_set]; exact h3
  · rw [h4, List.getElem?_map, bt_lt hi]; rfl

/-! ### Structs and arrays, part by part, as rules -/
theorem fill_eq {place : Nat → Option (Nat × Nat)} : ∀ (parts : List (Nat × Value)) (cells : List Value), Instr.fill place cells.toArray parts = (fillL place cells parts).map List.toArray := by
  intro parts
  induction parts with
  | nil => intro cells; rfl
  | cons x rest ih =>
    intro cells
    obtain ⟨i, v⟩ := x
    cases hp : place i with
    | none => simp [Instr.fill, fillL, hp]
    | some p =>
      obtain ⟨off, size⟩ := p
      have e : v.cells.zipIdx.foldl (fun cs x => cs.setIfInBounds (off + x.2) x.1) cells.toArray = (setR cells off v.cells.toList).toArray := by
        rw [← Array.foldl_toList, Array.toList_zipIdx]
        exact setR_fold v.cells.toList cells off 0
      simp only [Instr.fill, fillL, hp, Option.bind_some, chk]
      by_cases hc : v.cells.size = size ∧ off + size ≤ cells.length
      · rw [if_pos hc, if_neg (by simp [hc.1]; omega)]
        rw [show (v.cells.zipIdx.foldl (fun cs x => match x with | (c, j) => cs.setIfInBounds (off + j) c) cells.toArray) = (setR cells off v.cells.toList).toArray from e]
        exact ih _
      · rw [if_neg hc, if_pos (by
          simp only [ne_eq, List.size_toArray, gt_iff_lt, Bool.or_eq_true, decide_eq_true_eq]
          rcases Nat.lt_or_ge cells.length (off + v.cells.size) with h | h
          · exact .inr h
          · left; intro e2; exact hc ⟨e2, by omega⟩)]
        rfl
@[go_sem] theorem buildV_go {P : Program} {t : TypeId} {parts : List (Nat × Value)} : buildV P t parts = match placesT P t with
  | some ps => (zeroT P t).bind fun z => (fillL (ps[·]?) z.cells.toList parts).map fun l => .agg l.toArray
  | none => (arrS P t).bind fun e => (zeroT P t).bind fun z => (fillL (fun i => some (i * e.2, e.2)) z.cells.toList parts).map fun l => .agg l.toArray := by
  unfold buildV
  have key : ∀ (pl : Nat → Option (Nat × Nat)) (z : Value), (Instr.fill pl z.cells parts).map Value.agg = (fillL pl z.cells.toList parts).map fun l => .agg l.toArray := by
    intro pl z
    have := fill_eq (place := pl) parts z.cells.toList
    simp only [Array.toArray_toList] at this
    rw [this, Option.map_map]
    rfl
  simp only [key]
  cases placesT P t <;> rfl
@[go_sem] theorem fillL_nil {pl : Nat → Option (Nat × Nat)} {cells : List Value} : fillL pl cells [] = some cells := (rfl)
@[go_sem] theorem fillL_cons {pl : Nat → Option (Nat × Nat)} {cells : List Value} {i : Nat} {v : Value} {r : List (Nat × Value)} :
    fillL pl cells ((i, v) :: r) = (pl i).bind fun p => chk (v.cells.size = p.2 ∧ p.1 + p.2 ≤ cells.length) (fillL pl (setR cells p.1 v.cells.toList) r) := (rfl)
@[go_sem] theorem setR_nil {cells : List Value} {o : Nat} : setR cells o [] = cells := (rfl)
@[go_sem] theorem setR_cons {cells vs : List Value} {o : Nat} {v : Value} : setR cells o (v :: vs) = setR (cells.set o v) (o + 1) vs := (rfl)
@[go_sem] theorem lset_zero {l : List Value} {u v : Value} : (u :: l).set 0 v = v :: l := (rfl)
@[go_sem] theorem lset_succ {l : List Value} {u v : Value} {i : Nat} : (u :: l).set (i + 1) v = u :: l.set i v := (rfl)
@[go_sem] theorem toL_toA {l : List Value} : l.toArray.toList = l := (rfl)
@[go_sem] theorem size_toA {l : List Value} : l.toArray.size = l.length := (rfl)
@[go_sem] theorem len_consV {l : List Value} {v : Value} : (v :: l).length = l.length + 1 := (rfl)
@[go_sem] theorem len_nilV : ([] : List Value).length = 0 := (rfl)
attribute [go_sem] Nat.reduceLeDiff and_true
end Go.HL

namespace Go.HL
section
variable {n : Nat} {P : Program}
theorem opV_mono {o : Oper} {ρ : En} {H : Heap} {K K' : En → Heap → Prop} {Q Q' : Exit → En → Heap → Prop} (hk : ∀ ρ H, K ρ H → K' ρ H) (hq : ∀ e ρ H, Q e ρ H → Q' e ρ H) (hv : opV n P o ρ H K Q) : opV n P o ρ H K' Q' := by
  obtain ⟨dst, op, type, pos, after, guard⟩ := o
  unfold opV at hv ⊢
  simp only at hv ⊢
  split at hv
  · unfold ptrW at hv ⊢
    split at hv
    · rename_i ad ha
      simp only [withV, someW_iff] at hv ⊢
      obtain ⟨H', hs, hk'⟩ := hv
      exact ⟨H', hs, hk _ _ hk'⟩
    · exact hv.elim
  · simp only [someW_iff] at hv ⊢
    obtain ⟨z, hz, hk'⟩ := hv
    exact ⟨z, hz, hk _ _ hk'⟩
  · exact hk _ _ hv
  · simp only [someW_iff] at hv ⊢
    obtain ⟨z, hz, hk'⟩ := hv
    exact ⟨z, hz, hk _ _ hk'⟩
  · simp only [someW_iff] at hv ⊢
    obtain ⟨z, hz, hk'⟩ := hv
    exact ⟨z, hz, hk _ _ hk'⟩
  · exact hk _ _ hv
  · exact mapW_mono (fun H' => hk _ H') (fun v H' => hq _ _ H') hv
  · exact mapW_mono (fun H' => hk _ H') (fun v H' => hq _ _ H') hv
  · rename_i args ats
    split at hv
    · rename_i t xt s x ht hx
      simp only [withV] at hv ⊢
      unfold appW at hv ⊢
      split at hv
      · rename_i base len cap heq
        simp only [heq, someW_iff] at hv ⊢
        obtain ⟨e, he, size, hsz, bytes, hby, z, hz, m, hm, new, hnew, d, hd, hdi, hv⟩ := hv
        refine ⟨e, he, size, hsz, bytes, hby, z, hz, m, hm, new, hnew, d, hd, hdi, ?_⟩
        split at hv
        · rename_i hf
          rw [if_pos hf]
          cases base with
          | none => exact hk _ _ hv
          | some a =>
            obtain ⟨H', h1, h2⟩ := hv
            exact ⟨H', h1, hk _ _ h2⟩
        · rename_i hf
          rw [if_neg hf]
          obtain ⟨h1, h2, h3, old, h4, h5⟩ := hv
          exact ⟨h1, h2, h3, old, h4, fun nc a b => hk _ _ (h5 nc a b)⟩
      · exact hv.elim
    · exact hv.elim
  · exact hwp_mono P _ _ _ _ _ _ (fun v H' hx => hk _ H' hx) (fun _ _ hx => hx) hv
  · exact hwp_mono P _ _ _ _ _ _ (fun v H' hx => hk _ H' hx) (fun _ _ hx => hx) hv
  · exact hwp_mono P _ _ _ _ _ _ (fun v H' hx => hk _ H' hx) (fun _ _ hx => hx) hv
  · unfold callV at hv ⊢
    split at hv
    · exact hv.mono (fun v H' => hk _ H') (fun c H' => hq _ _ H')
    · exact hv.elim
  · exact invW.mono hv (fun v H' => hk _ H') (fun c H' => hq _ _ H')
  · unfold panW at hv ⊢
    split at hv
    · exact hq _ _ _ hv
    · exact hv.elim
  · simp only [someW_iff] at hv ⊢
    obtain ⟨z, hz, hk'⟩ := hv
    exact ⟨z, hz, hk _ _ hk'⟩
theorem opG_mono {ops : Array Oper} {o : Oper} {ρ : En} {H : Heap} {K K' : En → Heap → Prop} {Q Q' : Exit → En → Heap → Prop} (hk : ∀ ρ H, K ρ H → K' ρ H) (hq : ∀ e ρ H, Q e ρ H → Q' e ρ H) (h : opG n P ops o ρ H K Q) : opG n P ops o ρ H K' Q' := by
  unfold opG at h ⊢
  cases hg : o.guard with
  | none => rw [hg] at h; exact opV_mono hk hq h
  | some g =>
    obtain ⟨j, want⟩ := g
    rw [hg] at h
    simp only [guardW] at h ⊢
    cases hv : slotOf ops ρ j with
    | bool b => rw [hv] at h; exact ⟨fun e => opV_mono hk hq (h.1 e), fun e => hk _ _ (h.2 e)⟩
    | _ => rw [hv] at h; exact hk _ _ h
theorem opsWp_mono {ops : Array Oper} {Q Q' : Exit → En → Heap → Prop} (hq : ∀ e ρ H, Q e ρ H → Q' e ρ H) : ∀ (l : List Oper) (ρ : En) (H : Heap), opsWp n P ops Q l ρ H → opsWp n P ops Q' l ρ H := by
  intro l
  induction l with
  | nil => intro ρ H h; exact hq _ _ _ h
  | cons o l ih => intro ρ H h; exact opG_mono (fun ρ H => ih ρ H) hq h
theorem cw_mono (c : Code) : ∀ {Q Q' : Exit → En → Heap → Prop} (_ : ∀ e ρ H, Q e ρ H → Q' e ρ H) {ρ : En} {H : Heap}, cw n P c Q ρ H → cw n P c Q' ρ H := by
  induction c with
  | skip => intro Q Q' hq ρ H h; exact hq _ _ _ h
  | region id ops draw =>
    intro Q Q' hq ρ H h
    cases draw with
    | true => exact CW.mono hq h
    | false => exact opsWp_mono hq _ _ _ h
  | seq x y ihx ihy =>
    intro Q Q' hq ρ H h
    refine ihx ?_ h
    intro e ρ H hx
    cases e <;> first | exact ihy hq hx | exact hq _ _ _ hx
  | cond c x y ihx ihy =>
    intro Q Q' hq ρ H h
    simp only [cw] at h ⊢
    unfold condW at h ⊢
    split at h
    · exact ⟨fun e => ihx hq (h.1 e), fun e => ihy hq (h.2 e)⟩
    · exact h.elim
  | block id c ih =>
    intro Q Q' hq ρ H h
    refine ih ?_ h
    intro e ρ H hx
    cases e with
    | exit i =>
      simp only [blkQ] at hx ⊢
      split at hx
      · rename_i hi; rw [if_pos hi]; exact hq _ _ _ hx
      · rename_i hi; rw [if_neg hi]; exact hq _ _ _ hx
    | _ => exact hq _ _ _ hx
  | exit id => intro Q Q' hq ρ H h; exact hq _ _ _ h
  | ret => intro Q Q' hq ρ H h; exact hq _ _ _ h
  | label l => intro Q Q' hq ρ H h; exact hq _ _ _ h
  | _ => intro Q Q' hq ρ H h; exact CW.mono hq h
/-- What holds behind a piece of code. -/
theorem cut_at {c : Code} {K : En → Heap → Prop} {Q : Exit → En → Heap → Prop} {ρ : En} {H : Heap} (R : En → Heap → Prop)
    (h : cw n P c (seqQ (fun ρ H => @stop ⟨R ρ H⟩) Q) ρ H) (h2 : ∀ ρ H, R ρ H → K ρ H) : cw n P c (seqQ K Q) ρ H := by
  refine cw_mono c ?_ h
  intro e ρ H hx
  cases e <;> first | exact h2 _ _ hx | exact hx
/-- The same, of a piece of code that is the last of a block. -/
theorem cut_tail {c : Code} {Q : Exit → En → Heap → Prop} {ρ : En} {H : Heap} (R : En → Heap → Prop)
    (h : cw n P c (seqQ (fun ρ H => @stop ⟨R ρ H⟩) Q) ρ H) (h2 : ∀ ρ H, R ρ H → Q .normal ρ H) : cw n P c Q ρ H := by
  refine cw_mono c ?_ h
  intro e ρ H hx
  cases e <;> first | exact h2 _ _ hx | exact hx
/-- A struct that is laid into a block that has just been made. -/
theorem setH_push {H : Heap} {c : Array Value} {t : TypeId} {i : Nat} {v : Value} : setH (H.push (.cells c t)) ⟨H.size, i, none⟩ v = H.push (.cells (c.setIfInBounds i v) t) := by
  unfold setH
  apply Array.ext_getElem?
  intro j
  rw [Array.getElem?_modify]
  split
  · rename_i e
    simp at e; subst e
    simp
  · rename_i e
    simp at e
    rw [Array.getElem?_push, Array.getElem?_push]
    simp [Ne.symm e]
theorem wrs_push {H : Heap} {t : TypeId} : ∀ (new pre old : List Value), old.length = new.length → wrs (H.push (.cells (pre ++ old).toArray t)) ⟨H.size, 0, none⟩ new pre.length = some (H.push (.cells (pre ++ new).toArray t)) := by
  intro new
  induction new with
  | nil => intro pre old h; have : old = [] := by cases old <;> simp_all
           subst this; rfl
  | cons v new ih =>
    intro pre old h
    cases old with
    | nil => simp at h
    | cons u old =>
      have hb : Blk (H.push (.cells (pre ++ u :: old).toArray t)) H.size t (pre ++ u :: old) := Blk.new rfl
      simp only [wrs]
      rw [addr_add, Nat.zero_add, hb.wr (by simp) v, Option.bind_some, setH_push]
      have e : (pre ++ u :: old).toArray.setIfInBounds pre.length v = ((pre ++ [v]) ++ old).toArray := by simp
      have := ih (pre ++ [v]) old (by simpa using h)
      rw [e]
      simpa using this
theorem store_new {H : Heap} {z vs : List Value} {t : TypeId} (hs : sizeT P t = some vs.length) (hz : z.length = vs.length) (h1 : ∀ v ∈ vs, oneC v = true) : storeA P (H.push (.cells z.toArray t)) t ⟨H.size, 0, none⟩ (.agg vs.toArray) = some (H.push (.cells vs.toArray t)) := by
  rw [storeA_cells (vs := vs) rfl h1, hs, Option.bind_some, chk, if_pos rfl]
  exact wrs_push vs [] z hz
end
end Go.HL

