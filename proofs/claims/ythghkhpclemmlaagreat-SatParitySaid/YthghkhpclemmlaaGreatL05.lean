/- The rules by which simp works out the condition of a region that draws its order. -/
import Derived.Test.YthghkhpclemmlaaGreatL04
import Derived.Test.YthghkhpclemmlaaGreatRows
import Derived.WalkKit
import Derived.ProofKit
import Derived.OpenShut
namespace Go.HL

/-- Several looks, one behind the other. -/
def lk : List (Nat × Bool) → Plan → Plan
  | [], p => p
  | x :: r, p => .look x.1 x.2 (lk r p)
def heldB (hl : List (Addr × Value)) (H : Heap) [p : Inhabited Prop] : Prop := heldOK hl H ∧ p.default
theorem held_by {hl : List (Addr × Value)} {H : Heap} {p : Prop} (h : heldOK hl H) (hp : p) : @heldB hl H ⟨p⟩ := ⟨h, hp⟩
theorem heldOK_nil {H : Heap} : heldOK [] H := fun _ _ h => by simp [lookA] at h

section
variable {n : Nat} {P : Program} {l : List Oper} {hl : List (Addr × Value)} {Q : Exit → En → Heap → Prop} {ρ : En} {H : Heap}
@[go_sem ↓] theorem lk_nil {p : Plan} : lk [] p = p := (rfl)
@[go_sem ↓] theorem lk_cons {i : Nat} {f : Bool} {r : List (Nat × Bool)} {p : Plan} : lk ((i, f) :: r) p = .look i f (lk r p) := (rfl)
@[go_sem ↓] theorem drawW_nil {p : Plan} : drawW n P l hl Q (lk [] p) ρ H = drawW n P l hl Q p ρ H := (rfl)
@[go_sem ↓] theorem drawW_fin : drawW n P l hl Q .fin ρ H = Q .normal ρ H := (rfl)
@[go_sem ↓] theorem drawW_non : drawW n P l hl Q .non ρ H = True := (rfl)
theorem drawW_look {i : Nat} {f : Bool} {p : Plan} : drawW n P l hl Q (.look i f p) ρ H = someW (l[i]?) fun o => if f then opG n P l.toArray o ρ H (drawW n P l hl Q p) Q else opGF P n hl l o ρ fun ρ' => drawW n P l hl Q p ρ' H := by
  show (match l[i]? with | none => _ | some o => _) = _
  cases l[i]? <;> rfl
@[go_sem ↓] theorem drawW_lk_t {i : Nat} {r : List (Nat × Bool)} {p : Plan} : drawW n P l hl Q (lk ((i, true) :: r) p) ρ H = @someB _ (l[i]?) ⟨fun o => opG n P l.toArray o ρ H (drawW n P l hl Q (lk r p)) Q⟩ := by
  show drawW n P l hl Q (.look i true (lk r p)) ρ H = _
  rw [drawW_look]; rfl
@[go_sem ↓] theorem drawW_lk_f {i : Nat} {r : List (Nat × Bool)} {p : Plan} : drawW n P l hl Q (lk ((i, false) :: r) p) ρ H = @someB _ (l[i]?) ⟨fun o => opGF P n hl l o ρ fun ρ' => drawW n P l hl Q (lk r p) ρ' H⟩ := by
  show drawW n P l hl Q (.look i false (lk r p)) ρ H = _
  rw [drawW_look]; rfl
theorem drawW_act {i : Nat} {p alt : Plan} : drawW n P l hl Q (.act i p alt) ρ H = ((someW (l[i]?) fun o => opG n P l.toArray o ρ H (fun ρ' H' => heldOK hl H' ∧ drawW n P l hl Q p ρ' H') Q) ∧ drawW n P l hl Q alt ρ H) := by
  show ((match l[i]? with | none => _ | some o => _) ∧ _) = _
  cases l[i]? <;> rfl
@[go_sem ↓] theorem drawW_act1 {i : Nat} {p : Plan} : drawW n P l hl Q (.act i p .non) ρ H = @someB _ (l[i]?) ⟨fun o => opG n P l.toArray o ρ H (fun ρ' H' => @heldB hl H' ⟨drawW n P l hl Q p ρ' H'⟩) Q⟩ := by
  rw [drawW_act]
  exact and_true _
@[go_sem ↓] theorem drawW_act2 {i j : Nat} {p q alt : Plan} : drawW n P l hl Q (.act i p (.act j q alt)) ρ H = @both2 ⟨drawW n P l hl Q (.act i p .non) ρ H⟩ ⟨drawW n P l hl Q (.act j q alt) ρ H⟩ := by
  rw [drawW_act]
  show (_ ∧ _) = (drawW n P l hl Q (.act i p .non) ρ H ∧ _)
  rw [drawW_act (alt := .non)]
  show (_ ∧ _) = ((_ ∧ True) ∧ _)
  rw [and_true]
  rfl
theorem drawW_actd' {i : Nat} {p : Plan} : drawW n P l hl Q (.actd i p) ρ H = someW (l[i]?) fun o => opG n P l.toArray o ρ H (drawW n P l [] Q p) Q := by
  show (match l[i]? with | none => _ | some o => _) = _
  cases l[i]? <;> rfl
@[go_sem ↓] theorem drawW_actd {i : Nat} {p : Plan} : drawW n P l hl Q (.actd i p) ρ H = @someB _ (l[i]?) ⟨fun o => opG n P l.toArray o ρ H (drawW n P l [] Q p) Q⟩ := drawW_actd'
/-- Other cells are held from here on. -/
def reholdB (n : Nat) (P : Program) (l : List Oper) (p : Plan) (ρ : En) (H : Heap) [Q : Inhabited (Exit → En → Heap → Prop)] : Prop := ∃ hl', heldOK hl' H ∧ drawW n P l hl' Q.default p ρ H
@[go_sem ↓] theorem drawW_acth {i : Nat} {p : Plan} : drawW n P l hl Q (.acth i p) ρ H = @someB _ (l[i]?) ⟨fun o => opG n P l.toArray o ρ H (fun ρ' H' => @reholdB n P l p ρ' H' ⟨Q⟩) Q⟩ := by
  show (match l[i]? with | none => _ | some o => _) = _
  cases l[i]? <;> rfl
theorem rehold_by {p : Plan} (hl' : List (Addr × Value)) (hh : heldOK hl' H) (h : drawW n P l hl' Q p ρ H) : @reholdB n P l p ρ H ⟨Q⟩ := ⟨hl', hh, h⟩
@[go_sem] theorem heldB_nil {p : Prop} : @heldB [] H ⟨p⟩ = p := by
  unfold heldB
  exact propext ⟨fun h => h.2, fun h => ⟨heldOK_nil, h⟩⟩

variable {dst : Option Nat} {op : Op} {ty : TypeId} {pos : String} {after : Array Edge} {K : En → Prop}
@[go_sem ↓] theorem opGF_none : opGF P n hl l ⟨dst, op, ty, pos, after, none⟩ ρ K = @someB _ (opQ P (held hl) ρ.ev op) ⟨fun v => K (ρ.put n dst v)⟩ := (rfl)
@[go_sem ↓] theorem opGF_some {j : Nat} {want : Bool} : opGF P n hl l ⟨dst, op, ty, pos, after, some (j, want)⟩ ρ K =
    @guardB (slotOf l.toArray ρ j) want ⟨@someB _ (opQ P (held hl) ρ.ev op) ⟨fun v => K (ρ.put n dst v)⟩⟩ ⟨K (ρ.put n dst undef)⟩ := (rfl)
end

section
variable {P : Program} {V : HV} {ρ : Operand → Value}
@[go_sem ↓] theorem opQ_move {x : Operand} : opQ P V ρ (.move x) = some (ρ x) := (rfl)
@[go_sem ↓] theorem opQ_assign {x : Operand} : opQ P V ρ (.assign x) = some (ρ x) := (rfl)
@[go_sem ↓] theorem opQ_pick {c a b : Operand} : opQ P V ρ (.pick c a b) = pickV (ρ c) (ρ a) (ρ b) := (rfl)
@[go_sem ↓] theorem opQ_load {t : TypeId} {a : Operand} : opQ P V ρ (.load t a) = loadQ P V t (ρ a) := (rfl)
@[go_sem ↓] theorem opQ_nilCheck {x : Operand} : opQ P V ρ (.nilCheck x) = nilV (ρ x) := (rfl)
@[go_sem ↓] theorem opQ_binOp {b : BinOp} {t t' : TypeId} {x y : Operand} : opQ P V ρ (.binOp b t x y t') = binV P V b t x y (ρ x) (ρ y) := (rfl)
@[go_sem ↓] theorem opQ_unOp {u : UnOp} {t : TypeId} {x : Operand} : opQ P V ρ (.unOp u t x) = unV u (ρ x) := (rfl)
@[go_sem ↓] theorem opQ_convert {s d : TypeId} {x : Operand} : opQ P V ρ (.convert s d x) = convV P V s d (ρ x) := (rfl)
@[go_sem ↓] theorem opQ_makeInterface {t : TypeId} {x : Operand} : opQ P V ρ (.makeInterface t x) = ifaceV P t (ρ x) := (rfl)
@[go_sem ↓] theorem opQ_makeFunc {fn : Fn} {a b : List Operand} : opQ P V ρ (.makeFunc fn a.toArray b.toArray) = some (.func fn (a.map ρ).toArray (b.map ρ).toArray) := (rfl)
@[go_sem ↓] theorem opQ_slice {t : TypeId} {x : Operand} {a b c : Option Operand} : opQ P V ρ (.slice t x a b c) = sliceV P t (ρ x) (optMap ρ a) (optMap ρ b) (optMap ρ c) := (rfl)
@[go_sem ↓] theorem opQ_fieldAddr {s : TypeId} {x : Operand} {f : Nat} : opQ P V ρ (.fieldAddr s x f) = fieldAV P s (ρ x) f := (rfl)
@[go_sem ↓] theorem opQ_field {s : TypeId} {x : Operand} {f : Nat} : opQ P V ρ (.field s x f) = fieldV P s (ρ x) f := (rfl)
@[go_sem ↓] theorem opQ_indexAddr {s : TypeId} {x i : Operand} : opQ P V ρ (.indexAddr s x i) = indexAV P s (ρ x) (ρ i) := (rfl)
@[go_sem ↓] theorem opQ_index {s : TypeId} {x i : Operand} : opQ P V ρ (.index s x i) = indexV P s (ρ x) (ρ i) := (rfl)
@[go_sem ↓] theorem opQ_extract {x : Operand} {i : Nat} : opQ P V ρ (.extract x i) = extrV (ρ x) i := (rfl)
@[go_sem ↓] theorem opQ_build {t : TypeId} {l : List (Nat × Operand)} : opQ P V ρ (.build t l.toArray) = buildV P t (l.map fun p => (p.1, ρ p.2)) := (rfl)
@[go_sem ↓] theorem opQ_len {t : TypeId} {x : Operand} : opQ P V ρ (.call ⟨.builtin .len, #[x], #[t]⟩) = lenV P V t (ρ x) := (rfl)
@[go_sem ↓] theorem opQ_max {ts : Array TypeId} {x y : Operand} : opQ P V ρ (.call ⟨.builtin .max, #[x, y], ts⟩) = max2V (ρ x) (ρ y) := (rfl)
@[go_sem ↓] theorem opQ_min {ts : Array TypeId} {x y : Operand} : opQ P V ρ (.call ⟨.builtin .min, #[x, y], ts⟩) = min2V (ρ x) (ρ y) := (rfl)
@[go_sem] theorem optMap_none : optMap ρ none = none := (rfl)
@[go_sem] theorem optMap_some {x : Operand} : optMap ρ (some x) = some (ρ x) := (rfl)
end

theorem PanOK.no : PanOK (fun _ _ _ => False) := fun _ _ _ _ _ h => h
theorem draw0 {n : Nat} {P : Program} {l : List Oper} {Q : Exit → En → Heap → Prop} {id : Nat} {ρ : En} {H : Heap} (p : Plan) (hm : P.follows .mixedOrders = true) (h : drawW n P l [] Q p ρ H)
    (hok : drawOK l p = true := by kernel_rfl) (hpan : PanOK Q := by repeat (first | with_reducible exact PanOK.ret | with_reducible exact PanOK.no | with_reducible refine PanOK.seq ?_ | with_reducible refine PanOK.blk ?_ | exact PanOK.ret | exact PanOK.no | refine PanOK.seq ?_ | refine PanOK.blk ?_)) : @stop ⟨CW n P (.region id l.toArray true) Q ρ H⟩ :=
  draw_by p [] hm hok hpan heldOK_nil h
theorem draw1 {n : Nat} {P : Program} {l : List Oper} {Q : Exit → En → Heap → Prop} {id : Nat} {ρ : En} {H : Heap} (p : Plan) (hm : P.follows .mixedOrders = true) (hl : List (Addr × Value)) (hh : heldOK hl H) (h : drawW n P l hl Q p ρ H)
    (hok : drawOK l p = true := by kernel_rfl) (hpan : PanOK Q := by repeat (first | with_reducible exact PanOK.ret | with_reducible exact PanOK.no | with_reducible refine PanOK.seq ?_ | with_reducible refine PanOK.blk ?_ | exact PanOK.ret | exact PanOK.no | refine PanOK.seq ?_ | refine PanOK.blk ?_)) : @stop ⟨CW n P (.region id l.toArray true) Q ρ H⟩ :=
  draw_by p hl hm hok hpan hh h

@[go_sem] theorem lookA_eq {a : Addr} {v : Value} {l : List (Addr × Value)} : lookA ((a, v) :: l) a = some v := by simp [lookA]
@[go_sem] theorem lookA_ne {b b' o o' : Nat} {v : Value} {l : List (Addr × Value)} (h : b ≠ b' ∨ o ≠ o') : lookA ((⟨b, o, none⟩, v) :: l) ⟨b', o', none⟩ = lookA l ⟨b', o', none⟩ := by
  simp only [lookA, Addr.mk.injEq, and_true]
  rw [if_neg (by omega)]
theorem heldOK_one {H : Heap} {a : Addr} {v : Value} (h : cellH H a = some v) : heldOK [(a, v)] H := by
  intro a' v' e
  unfold lookA at e
  split at e
  · rename_i ea
    cases e
    exact ea ▸ h
  · simp [lookA] at e
end Go.HL

namespace Go.HL

/-! ### Writing one cell -/
def wr (H : Heap) (a : Addr) (v : Value) : Option Heap := if (cellH H a).isSome = true ∧ frozenH H a = false then some (setH H a v) else none
def wrs (H : Heap) (a : Addr) : List Value → Nat → Option Heap
  | [], _ => some H
  | v :: r, i => (wr H (a.add i) v).bind fun H' => wrs H' a r (i + 1)
theorem storeCells_wrs {a : Addr} : ∀ (vs : List Value) (H : Heap) (i : Nat), (∀ v ∈ vs, oneC v = true) → storeCellsH H a vs i = wrs H a vs i := by
  intro vs
  induction vs with
  | nil => intro H i _; rfl
  | cons v r ih =>
    intro H i h
    have hv := h v (by simp)
    simp only [storeCellsH, wrs, wr, hv, true_and]
    split
    · exact ih _ _ fun u hu => h u (by simp [hu])
    · rfl
section
variable {P : Program} {H : Heap} {t : TypeId} {a : Addr}
theorem storeA_cells {v : Value} {vs : List Value} (hc : v.cells = vs.toArray) (h1 : ∀ u ∈ vs, oneC u = true) : storeA P H t a v = (sizeT P t).bind fun s => chk (vs.length = s) (wrs H a vs 0) := by
  unfold storeA
  cases sizeT P t with
  | none => rfl
  | some s =>
    simp only [hc, List.size_toArray, Option.bind_some, chk]
    split
    · exact storeCells_wrs vs H 0 h1
    · rfl
@[go_sem] theorem wrs_one {v : Value} : wrs H a [v] 0 = wr H a v := by
  have e : a.add 0 = a := rfl
  simp only [wrs, e]
  cases wr H a v <;> rfl
@[go_sem] theorem storeA_int {k : IntKind} {n : Int} : storeA P H t a (.int k n) = (sizeT P t).bind fun s => chk (1 = s) (wr H a (.int k n)) := by
  rw [storeA_cells (vs := [.int k n]) rfl (by simp [oneC]), ← wrs_one]; rfl
@[go_sem] theorem storeA_bool {b : Bool} : storeA P H t a (.bool b) = (sizeT P t).bind fun s => chk (1 = s) (wr H a (.bool b)) := by
  rw [storeA_cells (vs := [.bool b]) rfl (by simp [oneC]), ← wrs_one]; rfl
@[go_sem] theorem storeA_string {b : ByteArray} : storeA P H t a (.string b) = (sizeT P t).bind fun s => chk (1 = s) (wr H a (.string b)) := by
  rw [storeA_cells (vs := [.string b]) rfl (by simp [oneC]), ← wrs_one]; rfl
@[go_sem] theorem storeA_pointer {b : Option Addr} : storeA P H t a (.pointer b) = (sizeT P t).bind fun s => chk (1 = s) (wr H a (.pointer b)) := by
  rw [storeA_cells (vs := [.pointer b]) rfl (by simp [oneC]), ← wrs_one]; rfl
@[go_sem] theorem storeA_slice {b : Option Addr} {m c : Nat} : storeA P H t a (.slice b m c) = (sizeT P t).bind fun s => chk (1 = s) (wr H a (.slice b m c)) := by
  rw [storeA_cells (vs := [.slice b m c]) rfl (by simp [oneC]), ← wrs_one]; rfl
@[go_sem] theorem storeA_map {b : Option Nat} : storeA P H t a (.map b) = (sizeT P t).bind fun s => chk (1 = s) (wr H a (.map b)) := by
  rw [storeA_cells (vs := [.map b]) rfl (by simp [oneC]), ← wrs_one]; rfl
@[go_sem] theorem storeA_func {f : Fn} {x y : Array Value} : storeA P H t a (.func f x y) = (sizeT P t).bind fun s => chk (1 = s) (wr H a (.func f x y)) := by
  rw [storeA_cells (vs := [.func f x y]) rfl (by simp [oneC]), ← wrs_one]; rfl
@[go_sem] theorem storeA_nilFunc : storeA P H t a .nilFunc = (sizeT P t).bind fun s => chk (1 = s) (wr H a .nilFunc) := by
  rw [storeA_cells (vs := [.nilFunc]) rfl (by simp [oneC]), ← wrs_one]; rfl
@[go_sem] theorem storeA_iface {x : TypeId} {y : Value} : storeA P H t a (.iface x y) = (sizeT P t).bind fun s => chk (1 = s) (wr H a (.iface x y)) := by
  rw [storeA_cells (vs := [.iface x y]) rfl (by simp [oneC]), ← wrs_one]; rfl
@[go_sem] theorem storeA_nilIface : storeA P H t a .nilIface = (sizeT P t).bind fun s => chk (1 = s) (wr H a .nilIface) := by
  rw [storeA_cells (vs := [.nilIface]) rfl (by simp [oneC]), ← wrs_one]; rfl
@[go_sem] theorem chk_one {o : Option Heap} : chk (1 = 1) o = o := if_pos rfl
@[go_sem] theorem cells_int {k : IntKind} {n : Int} : (Value.int k n).cells = #[.int k n] := (rfl)
@[go_sem] theorem cells_bool {b : Bool} : (Value.bool b).cells = #[.bool b] := (rfl)
@[go_sem] theorem cells_string {b : ByteArray} : (Value.string b).cells = #[.string b] := (rfl)
@[go_sem] theorem cells_pointer {b : Option Addr} : (Value.pointer b).cells = #[.pointer b] := (rfl)
@[go_sem] theorem cells_slice {b : Option Addr} {m c : Nat} : (Value.slice b m c).cells = #[.slice b m c] := (rfl)
@[go_sem] theorem cells_map {b : Option Nat} : (Value.map b).cells = #[.map b] := (rfl)
@[go_sem] theorem cells_func {f : Fn} {x y : Array Value} : (Value.func f x y).cells = #[.func f x y] := (rfl)
@[go_sem] theorem cells_nilFunc : Value.nilFunc.cells = #[.nilFunc] := (rfl)
@[go_sem] theorem cells_iface {x : TypeId} {y : Value} : (Value.iface x y).cells = #[.iface x y] := (rfl)
@[go_sem] theorem cells_nilIface : Value.nilIface.cells = #[.nilIface] := (rfl)
@[go_sem] theorem cells_agg {x : Array Value} : (Value.agg x).cells = x := (rfl)
end

/-! ### Blocks -/
/-- Block b holds just these cells, and may be written. -/
def Blk (H : Heap) (b : Nat) (t : TypeId) (vs : List Value) : Prop := H[b]? = some (.cells vs.toArray t (0, 0))
section
variable {H : Heap} {b b' : Nat} {t t' : TypeId} {vs vs' : List Value}
theorem Blk.cell (h : Blk H b t vs) (i : Nat) : cellH H ⟨b, i, none⟩ = vs[i]? := by
  unfold cellH; rw [h]; simp
theorem Blk.frozen (h : Blk H b t vs) (i : Nat) : frozenH H ⟨b, i, none⟩ = false := by
  unfold frozenH; rw [h]; simp
theorem Blk.lt (h : Blk H b t vs) : b < H.size := by
  rcases Nat.lt_or_ge b H.size with h' | h'
  · exact h'
  · unfold Blk at h; rw [Array.getElem?_eq_none h'] at h; simp at h
theorem Blk.wr (h : Blk H b t vs) {i : Nat} (hi : i < vs.length) (v : Value) : wr H ⟨b, i, none⟩ v = some (setH H ⟨b, i, none⟩ v) := by
  unfold HL.wr; rw [h.cell, h.frozen, if_pos]; simp [hi]
theorem setH_other {a : Addr} {v : Value} (h : b ≠ a.block) : (setH H a v)[b]? = H[b]? := by
  unfold setH; rw [Array.getElem?_modify]; simp [Ne.symm h]
theorem Blk.set (h : Blk H b t vs) (i : Nat) (v : Value) : Blk (setH H ⟨b, i, none⟩ v) b t (vs.set i v) := by
  unfold Blk setH; rw [Array.getElem?_modify]; unfold Blk at h; simp [h]
theorem Blk.set_other (h : Blk H b t vs) {a : Addr} {v : Value} (hb : b ≠ a.block) : Blk (setH H a v) b t vs := by
  unfold Blk; rw [setH_other hb]; exact h
theorem Blk.push (h : Blk H b t vs) (o : Obj) : Blk (H.push o) b t vs := by
  have := h.lt
  unfold Blk at h ⊢
  rw [Array.getElem?_push]; simp [Nat.ne_of_lt this, h]
theorem Blk.new {l : Array Value} (h : vs.toArray = l) : Blk (H.push (.cells l t)) H.size t vs := by
  unfold Blk; simp [h]
theorem Blk.inj (h : Blk H b t vs) (h' : Blk H b t' vs') : vs = vs' ∧ t = t' := by
  unfold Blk at h h'; rw [h] at h'; simpa using h'
theorem size_setH {a : Addr} {v : Value} : (setH H a v).size = H.size := by unfold setH; simp
end

/-! ### Frames -/
/-- H' has grown out of H, and differs in the blocks of F alone. -/
structure Fr (F : List Nat) (H H' : Heap) : Prop where
  size : H.size ≤ H'.size
  same : ∀ b, b < H.size → b ∉ F → H'[b]? = H[b]?
theorem Fr.refl (F : List Nat) (H : Heap) : Fr F H H := ⟨Nat.le_refl _, fun _ _ _ => rfl⟩
theorem Fr.trans {F : List Nat} {H H' H'' : Heap} (h : Fr F H H') (h' : Fr F H' H'') : Fr F H H'' :=
  ⟨Nat.le_trans h.size h'.size, fun b hb hF => (h'.same b (Nat.lt_of_lt_of_le hb h.size) hF).trans (h.same b hb hF)⟩
theorem Fr.mono {F G : List Nat} {H H' : Heap} (h : Fr F H H') (hs : ∀ b, b < H.size → b ∈ F → b ∈ G) : Fr G H H' :=
  ⟨h.size, fun b hb hG => h.same b hb fun hF => hG (hs b hb hF)⟩
theorem Fr.set {F : List Nat} {H : Heap} {a : Addr} {v : Value} (h : a.block ∈ F) : Fr F H (setH H a v) :=
  ⟨by rw [size_setH]; exact Nat.le_refl _, fun b _ hF => setH_other (fun e => hF (e ▸ h))⟩
theorem Fr.push {F : List Nat} {H : Heap} {o : Obj} : Fr F H (H.push o) :=
  ⟨by simp, fun b hb _ => by rw [Array.getElem?_push]; simp [Nat.ne_of_lt hb]⟩
theorem Fr.set' {F : List Nat} {H H' : Heap} {a : Addr} {v : Value} (h0 : Fr F H H') (h : a.block ∈ F ∨ H.size ≤ a.block) : Fr F H (setH H' a v) :=
  ⟨by rw [size_setH]; exact h0.size, fun b hb hF => by
    have hne : b ≠ a.block := by
      rintro rfl
      rcases h with h | h
      · exact hF h
      · omega
    rw [setH_other hne]; exact h0.same b hb hF⟩
theorem Fr.push' {F : List Nat} {H H' : Heap} {o : Obj} (h0 : Fr F H H') : Fr F H (H'.push o) := h0.trans Fr.push
theorem Fr.blk {F : List Nat} {H H' : Heap} (h : Fr F H H') {b : Nat} {t : TypeId} {vs : List Value} (hb : Blk H b t vs) (hF : b ∉ F) : Blk H' b t vs := by
  unfold Blk; rw [h.same b hb.lt hF]; exact hb
theorem Fr.cell {F : List Nat} {H H' : Heap} (h : Fr F H H') {a : Addr} (hb : a.block < H.size) (hF : a.block ∉ F) : cellH H' a = cellH H a := by
  unfold cellH; rw [h.same _ hb hF]
theorem cell_lt {H : Heap} {a : Addr} {v : Value} (h : cellH H a = some v) : a.block < H.size := by
  rcases Nat.lt_or_ge a.block H.size with h' | h'
  · exact h'
  · unfold cellH at h; rw [Array.getElem?_eq_none h'] at h; simp at h
theorem Fr.cell' {F : List Nat} {H H' : Heap} (h : Fr F H H') {a : Addr} {v : Value} (hc : cellH H a = some v) (hF : a.block ∉ F) : cellH H' a = some v := (h.cell (cell_lt hc) hF).trans hc

/-- The i-th of a list of numbers. -/
def nt (xs : List Int) (i : Nat) : Int := xs.getD i 0
theorem nt_lt {xs : List Int} {i : Nat} (h : i < xs.length) : xs[i]? = some (nt xs i) := by
  unfold nt; rw [List.getD_eq_getElem?_getD, List.getElem?_eq_getElem h]; rfl
theorem nt_set_eq {xs : List Int} {i : Nat} {v : Int} (h : i < xs.length) : nt (xs.set i v) i = v := by
  unfold nt; simp [h]
theorem nt_set_ne {xs : List Int} {i j : Nat} {v : Int} (h : i ≠ j) : nt (xs.set i v) j = nt xs j := by
  unfold nt; simp [List.getElem?_set_ne h]
/-- A block of numbers of 64 bits. -/
def IB (H : Heap) (b : Nat) (t : TypeId) (xs : List Int) : Prop := Blk H b t (xs.map (Value.int .i64))
theorem IB.cell {H : Heap} {b : Nat} {t : TypeId} {xs : List Int} (h : IB H b t xs) {i : Nat} (hi : i < xs.length) : cellH H ⟨b, i, none⟩ = some (.int .i64 (nt xs i)) := by
  rw [Blk.cell h, List.getElem?_map, nt_lt hi]; rfl
theorem IB.wr {H : Heap} {b : Nat} {t : TypeId} {xs : List Int} (h : IB H b t xs) {i : Nat} (hi : i < xs.length) (v : Value) : wr H ⟨b, i, none⟩ v = some (setH H ⟨b, i, none⟩ v) := Blk.wr h (by simpa using hi) v
theorem IB.set {H : Heap} {b : Nat} {t : TypeId} {xs : List Int} (h : IB H b t xs) (i : Nat) (v : Int) : IB (setH H ⟨b, i, none⟩ (.int .i64 v)) b t (xs.set i v) := by
  unfold IB; rw [List.map_set]; exact Blk.set h i _
theorem IB.set_other {H : Heap} {b : Nat} {t : TypeId} {xs : List Int} (h : IB H b t xs) {a : Addr} {v : Value} (hb : b ≠ a.block) : IB (setH H a v) b t xs := Blk.set_other h hb
theorem IB.lt {H : Heap} {b : Nat} {t : TypeId} {xs : List Int} (h : IB H b t xs) : b < H.size := Blk.lt h
end Go.HL

namespace Go.HL

/-! ### A slice literal -/
theorem foldl_set (cs : List Value) : ∀ (pre mid suf : List Value), mid.length = cs.length →
    (cs.zipIdx).foldl (fun (a : Array Value) (x : Value × Nat) => a.setIfInBounds (pre.length + x.2) x.1) (pre ++ mid ++ suf).toArray = (pre ++ cs ++ suf).toArray := by
  have key : ∀ (cs : List Value) (k : Nat) (done mid pre suf : List Value), done.length = k → mid.length = cs.length →
      (cs.zipIdx k).foldl (fun (a : Array Value) (x : Value × Nat) => a.setIfInBounds (pre.length + x.2) x.1) (pre ++ (done ++ mid) ++ suf).toArray = (pre ++ (done ++ cs) ++ suf).toArray := by
    intro cs
    induction cs with
    | nil => intro k done mid pre suf _ hm; have : mid = [] := by cases mid <;> simp_all
             subst this; rfl
    | cons c cs ih =>
      intro k done mid pre suf hk hm
      cases mid with
      | nil => simp at hm
      | cons x mid =>
        simp only [List.zipIdx_cons, List.foldl_cons]
        have e : (pre ++ (done ++ x :: mid) ++ suf).toArray.setIfInBounds (pre.length + k) c = (pre ++ ((done ++ [c]) ++ mid) ++ suf).toArray := by
          simp only [List.setIfInBounds_toArray]
          congr 1
          rw [List.append_assoc, List.set_append_right _ _ (by omega)]
          simp only [Nat.add_sub_cancel_left, List.append_assoc, List.cons_append, List.nil_append]
          rw [List.set_append_right _ _ (by omega)]
          simp [hk]
        rw [e]
        have := ih (k + 1) (done ++ [c]) mid pre suf (by simp [hk]) (by simpa using hm)
        rw [this]
        simp
  intro pre mid suf hm
  simpa using key cs 0 [] mid pre suf rfl hm
def enumV (vs : List Value) : List (Nat × Value) := vs.zipIdx.map fun x => (x.2, x.1)
theorem fill_enum {s : Nat} : ∀ (vs : List Value) (k : Nat) (pre rest : List Value), pre.length = k * s → rest.length = vs.length * s → (∀ v ∈ vs, v.cells.size = s) →
    Instr.fill (fun i => some (i * s, s)) (pre ++ rest).toArray ((vs.zipIdx k).map fun x => (x.2, x.1)) = some (pre ++ vs.flatMap (·.cells.toList)).toArray := by
  intro vs
  induction vs with
  | nil => intro k pre rest _ hr _; have : rest = [] := by cases rest <;> simp_all
           subst this; simp [Instr.fill]
  | cons v vs ih =>
    intro k pre rest hp hr hv
    have hvs := hv v (by simp)
    simp only [List.zipIdx_cons, List.map_cons, Instr.fill]
    have hlen : s ≤ rest.length := by rw [hr]; simp [Nat.add_mul]; 
    rw [if_neg (by simp [hvs, hp]; omega)]
    have hsplit : rest = rest.take s ++ rest.drop s := (List.take_append_drop s rest).symm
    have hf := foldl_set v.cells.toList pre (rest.take s) (rest.drop s) (by simp [hvs]; omega)
    have e : v.cells.zipIdx.foldl (fun cs x => cs.setIfInBounds (k * s + x.2) x.1) (pre ++ rest).toArray = (pre ++ v.cells.toList ++ rest.drop s).toArray := by
      rw [← hf, ← hp]
      rw [← Array.foldl_toList, Array.toList_zipIdx]
      congr 2
      rw [List.append_assoc, List.take_append_drop]
    rw [show (v.cells.zipIdx.foldl (fun cs x => match x with | (c, j) => cs.setIfInBounds (k * s + j) c) (pre ++ rest).toArray) = (pre ++ v.cells.toList ++ rest.drop s).toArray from e]
    rw [ih (k + 1) (pre ++ v.cells.toList) (rest.drop s) (by simp [hp, hvs, Nat.add_mul]) (by simp [hr, Nat.add_mul]) (fun u hu => hv u (by simp [hu]))]
    simp
theorem mkCells_size {z : Array Value} {n : Nat} : (mkCells z n).size = n := by simp [mkCells]
theorem buildSlice_enum {P : Program} {H : Heap} {t : TypeId} {vs : List Value} : buildSliceV P H t vs.length (enumV vs) =
    (elemT P t).bind fun e => (sizeT P e).bind fun s => (zeroT P e).bind fun _ => if vs.length * s ≤ 16777216 then
      (if (vs.all fun v => v.cells.size == s) = true then some (.slice (some ⟨H.size, 0, none⟩) vs.length vs.length, H.push (.cells (vs.flatMap (·.cells.toList)).toArray e)) else buildSliceV P H t vs.length (enumV vs)) else none := by
  conv => lhs; unfold buildSliceV
  cases he : elemT P t with
  | none => rfl
  | some e =>
    cases hs : sizeT P e with
    | none => simp [hs]
    | some s =>
      cases hz : zeroT P e with
      | none => simp [hs, hz]
      | some z =>
        simp only [hs, hz, Option.bind_some]
        split
        · rename_i hl
          split
          · rename_i ha
            rw [List.all_eq_true] at ha
            have := fill_enum (s := s) vs 0 [] (mkCells z.cells (vs.length * s)).toList (by simp) (by simp [mkCells_size]) (fun v hv => by simpa using ha v hv)
            unfold fillV enumV
            simp only [List.nil_append, Array.toArray_toList] at this
            rw [this]
            rfl
          · unfold buildSliceV
            simp only [he, hs, hz, Option.bind_some, if_pos hl]
        · rfl
section
variable {P : Program} {H : Heap} {t : TypeId} {a b c d : Value}
def bsl (P : Program) (H : Heap) (t : TypeId) (vs : List Value) : Option (Value × Heap) :=
  (elemT P t).bind fun e => (sizeT P e).bind fun s => (zeroT P e).bind fun _ =>
    chk (vs.length * s ≤ 16777216 ∧ (vs.all fun v => v.cells.size == s) = true) (some (.slice (some ⟨H.size, 0, none⟩) vs.length vs.length, H.push (.cells (vs.flatMap (·.cells.toList)).toArray e)))
theorem bsl_sound {vs : List Value} {r : Value × Heap} (h : bsl P H t vs = some r) : buildSliceV P H t vs.length (enumV vs) = some r := by
  unfold bsl at h
  rw [buildSlice_enum]
  cases he : elemT P t with
  | none => simp [he] at h
  | some e =>
    cases hs : sizeT P e with
    | none => simp [he, hs] at h
    | some s =>
      cases hz : zeroT P e with
      | none => simp [he, hs, hz] at h
      | some z =>
        simp only [he, hs, hz, Option.bind_some] at h ⊢
        obtain ⟨⟨h1, h2⟩, h3⟩ := chk_some h
        rw [if_pos h1, if_pos h2]
        exact h3
/-- One element of one cell. -/
theorem bs_one {e : TypeId} {z : Value} (he : elemT P t = some e) (hs : sizeT P e = some 1) (hz : zeroT P e = some z) (ha : a.cells = #[a]) :
    buildSliceV P H t 1 [(0, a)] = some (.slice (some ⟨H.size, 0, none⟩) 1 1, H.push (.cells #[a] e)) := by
  refine bsl_sound (vs := [a]) ?_
  simp [bsl, he, hs, hz, chk, ha]
theorem bs_two {e : TypeId} {z : Value} (he : elemT P t = some e) (hs : sizeT P e = some 1) (hz : zeroT P e = some z) (ha : a.cells = #[a]) (hb : b.cells = #[b]) :
    buildSliceV P H t 2 [(0, a), (1, b)] = some (.slice (some ⟨H.size, 0, none⟩) 2 2, H.push (.cells #[a, b] e)) := by
  refine bsl_sound (vs := [a, b]) ?_
  simp [bsl, he, hs, hz, chk, ha, hb]
theorem bs_three {e : TypeId} {z : Value} (he : elemT P t = some e) (hs : sizeT P e = some 1) (hz : zeroT P e = some z) (ha : a.cells = #[a]) (hb : b.cells = #[b]) (hc : c.cells = #[c]) :
    buildSliceV P H t 3 [(0, a), (1, b), (2, c)] = some (.slice (some ⟨H.size, 0, none⟩) 3 3, H.push (.cells #[a, b, c] e)) := by
  refine bsl_sound (vs := [a, b, c]) ?_
  simp [bsl, he, hs, hz, chk, ha, hb, hc]
theorem bs_four {e : TypeId} {z : Value} (he : elemT P t = some e) (hs : sizeT P e = some 1) (hz : zeroT P e = some z) (ha : a.cells = #[a]) (hb : b.cells = #[b]) (hc : c.cells = #[c]) (hd : d.cells = #[d]) :
    buildSliceV P H t 4 [(0, a), (1, b), (2, c), (3, d)] = some (.slice (some ⟨H.size, 0, none⟩) 4 4, H.push (.cells #[a, b, c, d] e)) := by
  refine bsl_sound (vs := [a, b, c, d]) ?_
  simp [bsl, he, hs, hz, chk, ha, hb, hc, hd]
theorem bs_zero {e : TypeId} {s : Nat} {z : Value} (he : elemT P t = some e) (hs : sizeT P e = some s) (hz : zeroT P e = some z) :
    buildSliceV P H t 0 [] = some (.slice (some ⟨H.size, 0, none⟩) 0 0, H.push (.cells #[] e)) := by
  refine bsl_sound (vs := []) ?_
  simp [bsl, he, hs, hz, chk]
end

/-! ### make -/
@[go_sem] theorem makeV_int {P : Program} {H : Heap} {t : TypeId} {k k' : IntKind} {l c : Int} : makeV P H t (.int k l) (.int k' c) = (elemT P t).bind fun e => (bytesT P e).bind fun b => (sizeT P e).bind fun s => (zeroT P e).bind fun z =>
    chk (0 ≤ l ∧ l ≤ c ∧ c ≤ 281474976710656 ∧ (b : Int) * c ≤ 281474976710656) (some (.slice (some ⟨H.size, 0, none⟩) l.toNat c.toNat, H.push (.cells (mkCells z.cells (c.toNat * s)) e))) := (rfl)
@[go_sem] theorem mkCells_one {z : Value} {n : Nat} : mkCells #[z] n = (List.replicate n z).toArray := by
  unfold mkCells
  apply Array.ext'
  simp only [Array.toList_map, Array.toList_range]
  apply List.ext_getElem (by simp)
  intro i h1 h2
  simp [Nat.mod_one]
attribute [go_sem] Int.natCast_zero

/-! ### A struct or an array, part by part -/
def setR (cells : List Value) (off : Nat) : List Value → List Value
  | [] => cells
  | v :: vs => setR (cells.set off v) (off + 1) vs
def fillL (place : Nat → Option (Nat × Nat)) (cells : List Value) : List (Nat × Value) → Option (List Value)
  | [] => some cells
  | x :: r => (place x.1).bind fun p => chk (x.2.cells.size = p.2 ∧ p.1 + p.2 ≤ cells.length) (fillL place (setR cells p.1 x.2.cells.toList) r)
theorem setR_fold : ∀ (vs : List Value) (cells : List Value) (off k : Nat),
    (vs.zipIdx k).foldl (fun (a : Array Value) (x : Value × Nat) => a.setIfInBounds (off + x.2) x.1) cells.toArray = (setR cells (off + k) vs).toArray := by
  intro vs
  induction vs with
  | nil => intro cells off k; rfl
  | cons v vs ih =>
    intro cells off k
    simp only [List.zipIdx_cons, List.foldl_cons, List.setIfInBounds_toArray, setR]
    rw [ih]
    rfl
theorem fill_list {place : Nat → Option (Nat × Nat)} : ∀ (parts : List (Nat × Value)) (cells : List Value) (r : List Value), fillL place cells parts = some r → Instr.fill place cells.toArray parts = some r.toArray := by
  intro parts
  induction parts with
  | nil => intro cells r h; simp only [fillL, Option.some.injEq] at h; subst h; rfl
  | cons x rest ih =>
    intro cells r h
    obtain ⟨i, v⟩ := x
    simp only [fillL] at h
    cases hp : place i with
    | none => simp [hp] at h
    | some p =>
      obtain ⟨off, size⟩ := p
      simp only [hp, Option.bind_some] at h
      obtain ⟨⟨h1, h2⟩, h3⟩ := chk_some h
      simp only [Instr.fill, hp]
      rw [if_neg (by simp [h1]; omega)]
      have e : v.cells.zipIdx.foldl (fun cs x => cs.setIfInBounds (off + x.2) x.1) cells.toArray = (setR cells off v.cells.toList).toArray := by
        rw [← Array.foldl_toList, Array.toList_zipIdx]
        exact setR_fold v.cells.toList cells off 0
      rw [show (v.cells.zipIdx.foldl (fun cs x => match x with | (c, j) => cs.setIfInBounds (off + j) c) cells.toArray) = (setR cells off v.cells.toList).toArray from e]
      exact ih _ _ h3
def buildL (P : Program) (t : TypeId) (parts : List (Nat × Value)) : Option Value :=
  match placesT P t with
  | some ps => (zeroT P t).bind fun z => (fillL (ps[·]?) z.cells.toList parts).map fun l => .agg l.toArray
  | none => (arrS P t).bind fun e => (zeroT P t).bind fun z => (fillL (fun i => some (i * e.2, e.2)) z.cells.toList parts).map fun l => .agg l.toArray
theorem build_of {P : Program} {t : TypeId} {parts : List (Nat × Value)} {v : Value} (h : buildL P t parts = some v) : buildV P t parts = some v := by
  unfold buildL at h
  unfold buildV
  split at h
  · rename_i ps hps
    simp only [Option.bind_eq_some_iff, Option.map_eq_some_iff] at h
    obtain ⟨z, hz, l, hl, rfl⟩ := h
    have := fill_list parts z.cells.toList l hl
    simp only [Array.toArray_toList] at this
    simp only [hps, hz, Option.bind_some, this, Option.map_some]
  · rename_i hps
    simp only [Option.bind_eq_some_iff, Option.map_eq_some_iff] at h
    obtain ⟨e, he, z, hz, l, hl, rfl⟩ := h
    have := fill_list parts z.cells.toList l hl
    simp only [Array.toArray_toList] at this
    simp only [hps, he, hz, Option.bind_some, this, Option.map_some]

/-! ### append -/
/-- What append needs to know of the element type: its number, its cells, its bytes, its zero. -/
structure ElT (P : Program) (t : TypeId) (e size bytes : Nat) (z : Value) : Prop where
  elem : elemT P t = some e
  size : sizeT P e = some size
  bytes : bytesT P e = some bytes
  zero : zeroT P e = some z
theorem ElT.under {P : Program} {t : TypeId} {e size bytes : Nat} {z : Value} (h : ElT P t e size bytes z) : P.underlying t = some (.slice e) := by
  have he := h.elem
  unfold elemT at he
  cases hu : P.underlying t with
  | none => simp [hu] at he
  | some d => cases d <;> simp [hu] at he; subst he; rfl
theorem cellsH_at {c : Addr → Option Value} {b : Nat} : ∀ (l : List Value) (o i : Nat), (∀ j (h : j < l.length), c ⟨b, o + i + j, none⟩ = some l[j]) → cellsH c ⟨b, o, none⟩ i l.length = some l := by
  intro l
  induction l with
  | nil => intro o i _; rfl
  | cons v l ih =>
    intro o i h
    simp only [List.length_cons, cellsH]
    have h0 := h 0 (by simp)
    simp only [List.getElem_cons_zero, Nat.add_zero] at h0
    rw [addr_add, h0]
    simp only [Option.bind_some]
    rw [ih o (i + 1) (fun j hj => by have := h (j + 1) (by simpa using hj); simpa [Nat.add_assoc, Nat.add_comm 1 j] using this)]
    rfl
/-- append of one value that lies in a block of its own; there is room. -/
theorem app_fit1 {P : Program} {H H' : Heap} {t e bytes : Nat} {z v : Value} {b o len cap xb : Nat} {k : Value → Heap → Prop} (hT : ElT P t e 1 bytes z) (hfit : len < cap)
    (hx : cellH H ⟨xb, 0, none⟩ = some v) (hv : oneC v = true) (hw : wr H ⟨b, o + len, none⟩ v = some H') (hk : k (.slice (some ⟨b, o, none⟩) (len + 1) cap) H') :
    @appB P t t (.slice (some ⟨b, o, none⟩) len cap) (.slice (some ⟨xb, 0, none⟩) 1 1) ⟨H⟩ ⟨k⟩ := by
  show appW P H t t _ _ k
  unfold appW
  simp only [someW_iff]
  refine ⟨e, hT.elem, 1, hT.size, bytes, hT.bytes, z, hT.zero, 1, rfl, [v], ?_, .slice e, hT.under, by simp, ?_⟩
  · show cellsH (cellH H) ⟨xb, 0, none⟩ 0 1 = some [v]
    have := cellsH_at (c := cellH H) (b := xb) [v] 0 0 (by intro j hj; simp at hj; subst hj; simpa using hx)
    simpa using this
  · rw [if_pos (by omega)]
    refine ⟨H', ?_, hk⟩
    rw [storeCells_wrs _ _ _ (by simp [hv]), wrs_one, addr_add, Nat.mul_one]
    exact hw

/-- What holds behind a piece of code that cannot panic. -/
theorem cut_by {n : Nat} {P : Program} {c : Code} {K : En → Heap → Prop} {Q : Exit → En → Heap → Prop} {ρ : En} {H : Heap} (R : En → Heap → Prop)
    (h : @stop ⟨CW n P c (seqQ (fun ρ H => @stop ⟨R ρ H⟩) (fun _ _ _ => False)) ρ H⟩) (h2 : ∀ ρ H, R ρ H → K ρ H) : @stop ⟨CW n P c (seqQ K Q) ρ H⟩ := by
  refine CW.mono ?_ h
  intro e ρ H hx
  cases e <;> first | exact h2 _ _ hx | exact hx.elim
/-- The same in front of a piece of code that is worked out. -/
theorem cut_cw {n : Nat} {P : Program} {c : Code} {K : En → Heap → Prop} {Q : Exit → En → Heap → Prop} {ρ : En} {H : Heap} (R : En → Heap → Prop)
    (h : cw n P c (seqQ (fun ρ H => @stop ⟨R ρ H⟩) Q) ρ H) (h2 : ∀ ρ H, R ρ H → K ρ H) : CW n P c (seqQ K Q) ρ H := by
  refine CW.mono ?_ (cw_sound c _ _ _ h)
  intro e ρ H hx
  cases e <;> first | exact h2 _ _ hx | exact hx
end Go.HL

namespace Go.HL
open Go.ChangeShapes Go.WideShapes Go.ChangeAt Go.RowKit

theorem hcalls_of_callF {P : Program} {f : FuncId} {fn : Func} {args : List Value} {H : Heap} {R : Value → Heap → Prop} {E : List PanicEntry → Heap → Prop} (hf : P.funcs[f]? = some fn) (hb : fn.body.isNone = false)
    (hm : (fn.name == "runtime.NumGoroutine") = false) (h : CallF P f args H R E) : HCalls P f args.toArray H R E := by
  unfold CallF callFunc at h
  rw [hwp_bind'] at h
  have h' : hwp P (match P.funcs[f]? with
    | none => stuck "call: no such function"
    | some fn =>
      if fn.name == "runtime.NumGoroutine" then pure .numGoroutine
      else if fn.body.isNone then do
        mark (.extern f)
        if let some e := Extern.findNext fn then return ← e args.toArray
        match Extern.find fn with
        | some e => pure (.value (← e args.toArray))
        | none =>
          if fn.name.endsWith ".init" && !fn.name.startsWith "(" && !fn.name.startsWith "gosem." then pure (.value (.tuple #[]))
          else unsupported (.extern fn.name)
      else pure (.enter f args.toArray)) H (fun nx H' => match nx with
    | .value v => R v H'
    | .enter f xs => HCalls P f xs H' R E
    | _ => False) (fun v H' => E [{ v, recovered := false }] H') := h
  rw [hf] at h'
  simp only [hm, hb, Bool.false_eq_true, if_false] at h'
  exact h'

section
variable {H : Type} {enc : TypeId × Value → H} {P : Program}
theorem trodAll_stays (hl : laidOutB P = true) {W W' : World} {sp : Nat → Bool} : ∀ (ts : List TypeId) (vs : List Value) (ds : List (DataW H)) (ps : List MemPlace), (∀ t ∈ ts, P.readableRec t = true ∧ t < P.types.size) →
    DataW.TrodAll enc P W 0 (fun _ => true) true ts vs ds ps → (∀ p ∈ ps, W.sameAt W' p) → (∀ p ∈ ps, sp p.block = true) → DataW.TrodAll enc P W' 0 sp true ts vs ds ps := by
  intro ts
  induction ts with
  | nil => intro vs ds ps _ h _ _; cases vs <;> cases ds <;> first | exact h | exact h.elim
  | cons t ts ih =>
    intro vs ds ps hr h hs hsp
    cases vs with
    | nil => exact h.elim
    | cons v vs =>
      cases ds with
      | nil => exact h.elim
      | cons d ds =>
        obtain ⟨p, q, h1, h2, rfl⟩ := h
        exact ⟨p, q, WideElems.Trod_stays hl (hr t (by simp)).1 (hr t (by simp)).2 h1 (fun x hx => hs x (by simp [hx])) (fun x hx => hsp x (by simp [hx])),
          ih vs ds q (fun u hu => hr u (by simp [hu])) h2 (fun x hx => hs x (by simp [hx])) (fun x hx => hsp x (by simp [hx])), rfl⟩

theorem law_post {f : Func} {s : ChangeSpec} {W W' : World} {args : Array Value} {ds gs : List (DataW H)} {before : List MemPlace} {tb : TypeId} (hl : laidOutB P = true) (hr : ∀ t ∈ f.params.toList, P.readableRec t = true ∧ t < P.types.size)
    (hres : f.resultTypes = #[tb]) (htb : P.underlying tb = some .bool) (hsv : s.vars = []) (hsr : (s.fn H (ds ++ gs)).results = [.lit (.bool true)]) (hsa : (s.fn H (ds ++ gs)).args = ds) (hsg : (s.fn H (ds ++ gs)).vars = [])
    (hW : DataW.Whole enc P f.params.toList s.vars false W args.toList ds gs before) (hb : Below W.heap.size W W') : s.post enc P f false true false false W args (.bool true) W' := by
  have hW' := hW
  obtain ⟨p, q, hA, hV, rfl, hfz, hnd⟩ := hW
  have hlt : ∀ x ∈ p, x.block < W.heap.size := fun x hx => hW'.lt x (by simp [hx])
  refine ⟨ds, gs, p ++ q, [], p, [], hW', ?_, ?_, ?_, hb.frame _, fun h => by cases h⟩
  · rw [hres, hsr]
    exact trodAll_cons_mk (shut_bool htb true) trodAll_mk0
  · rw [hsa]
    exact trodAll_stays hl _ _ _ _ hr hA (fun x hx => hb.same (hlt x hx)) (fun x hx => by simpa using hlt x hx)
  · rw [hsv, hsg]; rfl

theorem calls_of_hcalls {f : FuncId} {args : Array Value} {W : World} {R : World → Prop} (h : HCalls P f args W.heap (fun r H' => r = .bool true ∧ Fr [] W.heap H') NoP)
    (hR : ∀ W', Below W.heap.size W W' → R W') : Calls P f args W fun e W' => ∃ v, e = .returned v ∧ v = .bool true ∧ R W' := by
  refine (h W rfl).mono ?_
  rintro e W' ⟨hr, hx⟩
  cases e with
  | returned v =>
    obtain ⟨rfl, hf⟩ := hx
    exact ⟨_, rfl, rfl, hR W' ⟨hr.os, hr.tape, hr.output, hf.size, fun k hk => hf.same k hk (by simp)⟩⟩
  | panicked c => exact hx.elim
  | outgrown => exact hx.elim

/-- An argument that is a slice of integers of 64 bits: its numbers. -/
structure ArgInts (Hp : Heap) (k : IntKind) (v : Value) (zs : List Int) : Prop where
  ex : ∃ b o c, (v = .slice none 0 0 ∧ zs = []) ∨ (∃ a, v = .slice (some a) zs.length c ∧ (zs ≠ [] → a = ⟨b, o, none⟩) ∧ ∀ i, i < zs.length → cellH Hp ⟨b, o + i, none⟩ = some (.int k (nt zs i)))
  rng : ∀ n ∈ zs, (Lit.int k n).wf = true
theorem arg_ints {W : World} {r : Reach} {b0 : Nat} {t e : TypeId} {k : IntKind} {v : Value} {d : DataW H} {ps : List MemPlace} (ht : P.underlying t = some (.slice e)) (he : P.underlying e = some (.int k)) (hc : P.cellsOf e = 1)
    (hval : Value.okWide P W r b0 t v) (hd : DataW.Trod enc P W 0 (fun _ => true) true t v d ps) : ∃ zs, ArgInts W.heap k v zs := by
  obtain ⟨a0, len, cap, rfl⟩ := okWide_slice ht hval
  obtain ⟨fuel, hf⟩ := hd
  rcases open_ints ht he hc hf with ⟨hcs, _⟩ | ⟨a, len', cap', zs, hcs, _, hl, hm, hz, _, hcell, hwz⟩
  · simp [Value.cells] at hcs
    obtain ⟨rfl, rfl, rfl⟩ := hcs
    exact ⟨[], ⟨⟨0, 0, 0, .inl ⟨rfl, rfl⟩⟩, by simp⟩⟩
  · simp [Value.cells] at hcs
    obtain ⟨rfl, rfl, rfl⟩ := hcs
    simp only [if_true] at hz
    have hlen : (zs.take len).length = len := by simp; omega
    refine ⟨zs.take len, ⟨⟨a.block, a.off, cap, .inr ⟨a, by rw [hlen], ?_, ?_⟩⟩, fun n hn => hwz n (List.mem_of_mem_take hn)⟩⟩
    · intro hne
      have h0 : 0 < len := by
        rcases Nat.eq_zero_or_pos len with h | h
        · subst h; simp at hne
        · exact h
      have := hcell 0 (by omega)
      cases a with
      | mk b o s =>
        cases s with
        | none => rfl
        | some x =>
          exfalso
          simp [Addr.add, World.cell?] at this
          split at this <;> simp at this
    · intro i hi
      have hne : zs.take len ≠ [] := by intro e; rw [e] at hi; simp at hi
      rw [hlen] at hi
      have hc1 := hcell i (by omega)
      have h0 := hcell 0 (by omega)
      have ha : a = ⟨a.block, a.off, none⟩ := by
        cases a with
        | mk b o s =>
          cases s with
          | none => rfl
          | some x =>
            exfalso
            simp [Addr.add, World.cell?] at h0
            split at h0 <;> simp at h0
      rw [ha, addr_add] at hc1
      have e1 : cellH W.heap ⟨a.block, a.off + i, none⟩ = W.cell? ⟨a.block, a.off + i, none⟩ := rfl
      rw [e1, hc1]
      unfold nt
      rw [List.getD_eq_getElem?_getD, List.getD_eq_getElem?_getD, List.getElem?_take_of_lt hi]
end
theorem ArgInts.form {H : Heap} {k : IntKind} {v : Value} {zs : List Int} (h : ArgInts H k v zs) : ∃ a c, v = .slice a zs.length c := by
  obtain ⟨b, o, c, ⟨rfl, rfl⟩ | ⟨a, rfl, _⟩⟩ := h.ex
  · exact ⟨_, _, rfl⟩
  · exact ⟨_, _, rfl⟩
theorem ArgInts.some {H : Heap} {k : IntKind} {v : Value} {zs : List Int} (h : ArgInts H k v zs) (hne : 0 < zs.length) : ∃ b o c, v = .slice (some ⟨b, o, none⟩) zs.length c ∧ ∀ i, i < zs.length → cellH H ⟨b, o + i, none⟩ = some (.int k (nt zs i)) := by
  obtain ⟨b, o, c, ⟨rfl, rfl⟩ | ⟨a, rfl, ha, hc⟩⟩ := h.ex
  · simp at hne
  · have := ha (by intro e; rw [e] at hne; simp at hne)
    subst this
    exact ⟨b, o, c, rfl, hc⟩
theorem ArgInts.bnd {H : Heap} {v : Value} {zs : List Int} (h : ArgInts H .i64 v zs) {i : Nat} (hi : i < zs.length) : -9223372036854775808 ≤ nt zs i ∧ nt zs i ≤ 9223372036854775807 := by
  have hm : nt zs i ∈ zs := by
    have := nt_lt hi
    exact List.mem_of_getElem? this
  have := h.rng _ hm
  simpa [Lit.wf, IntKind.min, IntKind.max, IntKind.signed, IntKind.bits] using this

theorem argCells {H : Heap} {k : IntKind} {v : Value} {zs : List Int} (h : ArgInts H k v zs) : ∃ a c, v = .slice a zs.length c ∧ ∀ i, i < zs.length → ∃ b o, a = some ⟨b, o, none⟩ ∧ cellH H ⟨b, o + i, none⟩ = some (.int k (nt zs i)) := by
  by_cases hz : 0 < zs.length
  · obtain ⟨b, o, c, rfl, hc⟩ := h.some hz
    exact ⟨_, _, rfl, fun i hi => ⟨b, o, rfl, hc i hi⟩⟩
  · obtain ⟨a, c, rfl⟩ := h.form
    exact ⟨a, c, rfl, fun i hi => by omega⟩
end Go.HL

namespace Go.HL
open Go.ChangeShapes Go.WideShapes Go.ChangeAt Go.RowKit

theorem omapM_some {α β : Type} {f : α → Option β} : ∀ {l : List α} {r : List β}, l.mapM f = some r → r.length = l.length ∧ ∀ (j : Nat) x, l[j]? = some x → ∃ y, f x = some y ∧ r[j]? = some y := by
  intro l
  induction l with
  | nil => intro r h; simp at h; subst h; simp
  | cons a l ih =>
    intro r h
    rw [List.mapM_cons] at h
    simp only [bind, Option.bind_eq_some_iff, pure, Option.some.injEq] at h
    obtain ⟨y, hy, r', hr, rfl⟩ := h
    obtain ⟨h1, h2⟩ := ih hr
    refine ⟨by simp [h1], fun j x hx => ?_⟩
    cases j with
    | zero => simp at hx; subst hx; exact ⟨y, hy, rfl⟩
    | succ j => simp at hx; simpa using h2 j x hx
theorem list_of {α : Type} {p : Nat → α → Prop} : ∀ {n : Nat}, (∀ i, i < n → ∃ x, p i x) → ∃ xs : List α, xs.length = n ∧ ∀ i x, xs[i]? = some x → p i x := by
  intro n
  induction n with
  | zero => intro _; exact ⟨[], rfl, by simp⟩
  | succ n ih =>
    intro h
    obtain ⟨xs, h1, h2⟩ := ih fun i hi => h i (by omega)
    obtain ⟨x, hx⟩ := h n (by omega)
    refine ⟨xs ++ [x], by simp [h1], fun i y hy => ?_⟩
    rw [List.getElem?_append] at hy
    split at hy
    · exact h2 i y hy
    · rename_i hi
      have : i = n := by
        have := (List.getElem?_eq_some_iff.1 hy).1
        simp at this; omega
      subst this
      simp [h1] at hy
      exact hy ▸ hx

section
variable {H : Type} {enc : TypeId × Value → H} {P : Program} {W : World}
abbrev TR (enc : TypeId × Value → H) (P : Program) (W : World) (t : TypeId) (cs : List Value) : Prop := ∃ fuel x, DataW.trod enc P W 0 (fun _ => true) true fuel t cs = some x
theorem TR.int {t : TypeId} {k : IntKind} {cs : List Value} (ht : P.underlying t = some (.int k)) (h : TR enc P W t cs) : ∃ n, cs = [.int k n] ∧ (Lit.int k n).wf = true := by
  obtain ⟨fuel, x, h⟩ := h
  cases fuel with
  | zero => simp [DataW.trod] at h
  | succ fuel =>
    unfold DataW.trod at h
    rw [ht] at h
    split at h <;> simp_all
theorem TR.bool {t : TypeId} {cs : List Value} (ht : P.underlying t = some .bool) (h : TR enc P W t cs) : ∃ b, cs = [.bool b] := by
  obtain ⟨fuel, x, h⟩ := h
  cases fuel with
  | zero => simp [DataW.trod] at h
  | succ fuel =>
    unfold DataW.trod at h
    rw [ht] at h
    split at h <;> simp_all
theorem TR.string {t : TypeId} {cs : List Value} (ht : P.underlying t = some .string) (h : TR enc P W t cs) : ∃ s, cs = [.string s] ∧ s.size ≤ maxLen := by
  obtain ⟨fuel, x, h⟩ := h
  cases fuel with
  | zero => simp [DataW.trod] at h
  | succ fuel =>
    unfold DataW.trod at h
    rw [ht] at h
    split at h <;> simp_all
theorem TR.struct {t : TypeId} {fs : Array Field} {cs : List Value} (ht : P.underlying t = some (.struct fs)) (h : TR enc P W t cs) :
    cs.length = P.cellsOf t ∧ ∀ f ∈ fs.toList, TR enc P W f.type ((cs.drop f.offset).take (P.cellsOf f.type)) := by
  obtain ⟨fuel, x, h⟩ := h
  cases fuel with
  | zero => simp [DataW.trod] at h
  | succ fuel =>
    unfold DataW.trod at h
    rw [ht] at h
    split at h <;> first | (simp at *; done) | skip
    rename_i fs' hfs
    simp only [Option.some.injEq, TypeDesc.struct.injEq] at hfs
    subst hfs
    split at h
    · rename_i h1
      simp only [Option.map_eq_some_iff] at h
      obtain ⟨y, hy, _⟩ := h
      refine ⟨h1, fun f hf => ?_⟩
      obtain ⟨j, hj⟩ := List.getElem?_of_mem hf
      obtain ⟨z, hz, _⟩ := (omapM_some hy).2 j f hj
      exact ⟨fuel, z, hz⟩
    · simp at h
/-- A slice: it is nil, or its elements are laid one behind the other. -/
theorem TR.slice {t e : TypeId} {z : Nat} {cs : List Value} (ht : P.underlying t = some (.slice e)) (hz : P.cellsOf e = z) (hz0 : 0 < z) (h : TR enc P W t cs) :
    ∃ a len cap, cs = [.slice a len cap] ∧ len ≤ maxLen ∧ (0 < len → ∃ b o, a = some ⟨b, o, none⟩ ∧ ∀ i, i < len → ∃ es, es.length = z ∧ (∀ j, j < z → cellH W.heap ⟨b, o + i * z + j, none⟩ = es[j]?) ∧ TR enc P W e es) := by
  obtain ⟨fuel, x, h⟩ := h
  cases fuel with
  | zero => simp [DataW.trod] at h
  | succ fuel =>
    unfold DataW.trod at h
    rw [ht] at h
    split at h <;> first | (simp at *; done) | skip
    · exact ⟨none, 0, 0, rfl, by simp, by omega⟩
    · rename_i e' a len cap he
      simp only [Option.some.injEq, TypeDesc.slice.injEq] at he
      subst he
      simp only at h
      split at h
      · rename_i hb
        simp only [Option.bind_eq_some_iff] at h
        obtain ⟨elems, hel, _⟩ := h
        refine ⟨some a, len, cap, rfl, by omega, fun hl => ?_⟩
        have hrow : ∀ i, i < len → ∃ es, es.length = z ∧ (∀ j, j < z → W.cell? ((a.add (i * z)).add j) = es[j]?) ∧ TR enc P W e es := by
          intro i hi
          obtain ⟨y, hy, _⟩ := (omapM_some hel).2 i i (by simp [hi])
          simp only [Option.bind_eq_some_iff] at hy
          obtain ⟨es, hes, hy⟩ := hy
          rw [hz] at hes
          unfold World.cells? at hes
          split at hes
          · obtain ⟨g1, g2⟩ := omapM_some hes
            simp at g1
            refine ⟨es, g1, fun j hj => ?_, fuel, y, hy⟩
            obtain ⟨u, hu, hr⟩ := g2 j j (by simp [hj])
            rw [hu, hr]
          · simp at hes
        have ha : a = ⟨a.block, a.off, none⟩ := by
          obtain ⟨es, g1, g2, _⟩ := hrow 0 hl
          have := g2 0 hz0
          cases a with
          | mk b o s =>
            cases s with
            | none => rfl
            | some q =>
              exfalso
              have h0 : es[0]? = some es[0] := by simp
              rw [h0] at this
              simp [Addr.add, World.cell?] at this
              split at this <;> simp at this
        refine ⟨a.block, a.off, by rw [← ha], fun i hi => ?_⟩
        obtain ⟨es, g1, g2, g3⟩ := hrow i hi
        refine ⟨es, g1, fun j hj => ?_, g3⟩
        rw [← g2 j hj, ha, addr_add, addr_add]
        rfl
      · simp at h
theorem TR.of {t : TypeId} {v : Value} {d : DataW H} {ps : List MemPlace} (h : DataW.Trod enc P W 0 (fun _ => true) true t v d ps) : TR enc P W t v.cells.toList := by
  obtain ⟨fuel, h⟩ := h
  exact ⟨fuel, _, h⟩
end
end Go.HL

