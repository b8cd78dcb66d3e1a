
/- The rules by which simp works out the condition of a region that draws its order. -/
import Derived.Test.YtndbdehpkiimjaaGreatHLDraw
namespace Go.HL

/-- Several looks, one behind the other. -/
def lk : List (Nat × Bool) → Plan → Plan
  | [], p => p
  | x :: r, p => .look x.1 x.2 (lk r p)
def heldB (hl : List (Addr × Value)) (H : Heap) [p : Inhabited Prop] : Prop := heldOK hl H ∧ p.default
theorem held_by {hl : List (Addr × Value)} {H : Heap} {p : Prop} (h : heldOK hl H) (hp : p) : @heldB hl H ⟨p⟩ := ⟨h, hp⟩
theorem heldOK_nil {H : Heap} : heldOK [] H := fun _ _ h => by simp [lookA] at h

section
variable {n : Nat} {P : Program} {l : List Oper} {hl : List (Addr × Value)} {Q : Exit → En → Heap → Prop} {ρ : En} {H : Heap}
@[go_sem ↓] theorem lk_nil {p : Plan} : lk [] p = p := (rfl)
@[go_sem ↓] theorem lk_cons {i : Nat} {f : Bool} {r : List (Nat × Bool)} {p : Plan} : lk ((i, f) :: r) p = .look i f (lk r p) := (rfl)
@[go_sem ↓] theorem drawW_nil {p : Plan} : drawW n P l hl Q (lk [] p) ρ H = drawW n P l hl Q p ρ H := (rfl)
@[go_sem ↓] theorem drawW_fin : drawW n P l hl Q .fin ρ H = Q .normal ρ H := (rfl)
@[go_sem ↓] theorem drawW_non : drawW n P l hl Q .non ρ H = True := (rfl)
theorem drawW_look {i : Nat} {f : Bool} {p : Plan} : drawW n P l hl Q (.look i f p) ρ H = someW (l[i]?) fun o => if f then opG n P l.toArray o ρ H (drawW n P l hl Q p) Q else opGF P n hl l o ρ fun ρ' => drawW n P l hl Q p ρ' H := by
  show (match l[i]? with | none => _ | some o => _) = _
  cases l[i]? <;> rfl
@[go_sem ↓] theorem drawW_lk_t {i : Nat} {r : List (Nat × Bool)} {p : Plan} : drawW n P l hl Q (lk ((i, true) :: r) p) ρ H = @someB _ (l[i]?) ⟨fun o => opG n P l.toArray o ρ H (drawW n P l hl Q (lk r p)) Q⟩ := by
  show drawW n P l hl Q (.look i true (lk r p)) ρ H = _
  rw [drawW_look]; rfl
@[go_sem ↓] theorem drawW_lk_f {i : Nat} {r : List (Nat × Bool)} {p : Plan} : drawW n P l hl Q (lk ((i, false) :: r) p) ρ H = @someB _ (l[i]?) ⟨fun o => opGF P n hl l o ρ fun ρ' => drawW n P l hl Q (lk r p) ρ' H⟩ := by
  show drawW n P l hl Q (.look i false (lk r p)) ρ H = _
  rw [drawW_look]; rfl
theorem drawW_act {i : Nat} {p alt : Plan} : drawW n P l hl Q (.act i p alt) ρ H = ((someW (l[i]?) fun o => opG n P l.toArray o ρ H (fun ρ' H' => heldOK hl H' ∧ drawW n P l hl Q p ρ' H') Q) ∧ drawW n P l hl Q alt ρ H) := by
  show ((match l[i]? with | none => _ | some o => _) ∧ _) = _
  cases l[i]? <;> rfl
@[go_sem ↓] theorem drawW_act1 {i : Nat} {p : Plan} : drawW n P l hl Q (.act i p .non) ρ H = @someB _ (l[i]?) ⟨fun o => opG n P l.toArray o ρ H (fun ρ' H' => @heldB hl H' ⟨drawW n P l hl Q p ρ' H'⟩) Q⟩ := by
  rw [drawW_act]
  exact and_true _
@[go_sem ↓] theorem drawW_act2 {i j : Nat} {p q alt : Plan} : drawW n P l hl Q (.act i p (.act j q alt)) ρ H = @both2 ⟨drawW n P l hl Q (.act i p .non) ρ H⟩ ⟨drawW n P l hl Q (.act j q alt) ρ H⟩ := by
  rw [drawW_act]
  show (_ ∧ _) = (drawW n P l hl Q (.act i p .non) ρ H ∧ _)
  rw [drawW_act (alt := .non)]
  show (_ ∧ _) = ((_ ∧ True) ∧ _)
  rw [and_true]
  rfl
theorem drawW_actd' {i : Nat} {p : Plan} : drawW n P l hl Q (.actd i p) ρ H = someW (l[i]?) fun o => opG n P l.toArray o ρ H (drawW n P l [] Q p) Q := by
  show (match l[i]? with | none => _ | some o => _) = _
  cases l[i]? <;> rfl
@[go_sem ↓] theorem drawW_actd {i : Nat} {p : Plan} : drawW n P l hl Q (.actd i p) ρ H = @someB _ (l[i]?) ⟨fun o => opG n P l.toArray o ρ H (drawW n P l [] Q p) Q⟩ := drawW_actd'
/-- Other cells are held from here on. -/
def reholdB (n : Nat) (P : Program) (l : List Oper) (p : Plan) (ρ : En) (H : Heap) [Q : Inhabited (Exit → En → Heap → Prop)] : Prop := ∃ hl', heldOK hl' H ∧ drawW n P l hl' Q.default p ρ H
@[go_sem ↓] theorem drawW_acth {i : Nat} {p : Plan} : drawW n P l hl Q (.acth i p) ρ H = @someB _ (l[i]?) ⟨fun o => opG n P l.toArray o ρ H (fun ρ' H' => @reholdB n P l p ρ' H' ⟨Q⟩) Q⟩ := by
  show (match l[i]? with | none => _ | some o => _) = _
  cases l[i]? <;> rfl
theorem rehold_by {p : Plan} (hl' : List (Addr × Value)) (hh : heldOK hl' H) (h : drawW n P l hl' Q p ρ H) : @reholdB n P l p ρ H ⟨Q⟩ := ⟨hl', hh, h⟩
@[go_sem] theorem heldB_nil {p : Prop} : @heldB [] H ⟨p⟩ = p := by
  unfold heldB
  exact propext ⟨fun h => h.2, fun h => ⟨heldOK_nil, h⟩⟩

variable {dst : Option Nat} {op : Op} {ty : TypeId} {pos : String} {after : Array Edge} {K : En → Prop}
@[go_sem ↓] theorem opGF_none : opGF P n hl l ⟨dst, op, ty, pos, after, none⟩ ρ K = @someB _ (opQ P (held hl) ρ.ev op) ⟨fun v => K (ρ.put n dst v)⟩ := (rfl)
@[go_sem ↓] theorem opGF_some {j : Nat} {want : Bool} : opGF P n hl l ⟨dst, op, ty, pos, after, some (j, want)⟩ ρ K =
    @guardB (slotOf l.toArray ρ j) want ⟨@someB _ (opQ P (held hl) ρ.ev op) ⟨fun v => K (ρ.put n dst v)⟩⟩ ⟨K (ρ.put n dst undef)⟩ := (rfl)
end

section
variable {P : Program} {V : HV} {ρ : Operand → Value}
@[go_sem ↓] theorem opQ_move {x : Operand} : opQ P V ρ (.move x) = some (ρ x) := (rfl)
@[go_sem ↓] theorem opQ_assign {x : Operand} : opQ P V ρ (.assign x) = some (ρ x) := (rfl)
@[go_sem ↓] theorem opQ_pick {c a b : Operand} : opQ P V ρ (.pick c a b) = pickV (ρ c) (ρ a) (ρ b) := (rfl)
@[go_sem ↓] theorem opQ_load {t : TypeId} {a : Operand} : opQ P V ρ (.load t a) = loadQ P V t (ρ a) := (rfl)
@[go_sem ↓] theorem opQ_nilCheck {x : Operand} : opQ P V ρ (.nilCheck x) = nilV (ρ x) := (rfl)
@[go_sem ↓] theorem opQ_binOp {b : BinOp} {t t' : TypeId} {x y : Operand} : opQ P V ρ (.binOp b t x y t') = binV P V b t x y (ρ x) (ρ y) := (rfl)
@[go_sem ↓] theorem opQ_unOp {u : UnOp} {t : TypeId} {x : Operand} : opQ P V ρ (.unOp u t x) = unV u (ρ x) := (rfl)
@[go_sem ↓] theorem opQ_convert {s d : TypeId} {x : Operand} : opQ P V ρ (.convert s d x) = convV P V s d (ρ x) := (rfl)
@[go_sem ↓] theorem opQ_makeInterface {t : TypeId} {x : Operand} : opQ P V ρ (.makeInterface t x) = ifaceV P t (ρ x) := (rfl)
@[go_sem ↓] theorem opQ_makeFunc {fn : Fn} {a b : List Operand} : opQ P V ρ (.makeFunc fn a.toArray b.toArray) = some (.func fn (a.map ρ).toArray (b.map ρ).toArray) := (rfl)
@[go_sem ↓] theorem opQ_slice {t : TypeId} {x : Operand} {a b c : Option Operand} : opQ P V ρ (.slice t x a b c) = sliceV P t (ρ x) (optMap ρ a) (optMap ρ b) (optMap ρ c) := (rfl)
@[go_sem ↓] theorem opQ_fieldAddr {s : TypeId} {x : Operand} {f : Nat} : opQ P V ρ (.fieldAddr s x f) = fieldAV P s (ρ x) f := (rfl)
@[go_sem ↓] theorem opQ_field {s : TypeId} {x : Operand} {f : Nat} : opQ P V ρ (.field s x f) = fieldV P s (ρ x) f := (rfl)
@[go_sem ↓] theorem opQ_indexAddr {s : TypeId} {x i : Operand} : opQ P V ρ (.indexAddr s x i) = indexAV P s (ρ x) (ρ i) := (rfl)
@[go_sem ↓] theorem opQ_index {s : TypeId} {x i : Operand} : opQ P V ρ (.index s x i) = indexV P s (ρ x) (ρ i) := (rfl)
@[go_sem ↓] theorem opQ_extract {x : Operand} {i : Nat} : opQ P V ρ (.extract x i) = extrV (ρ x) i := (rfl)
@[go_sem ↓] theorem opQ_build {t : TypeId} {l : List (Nat × Operand)} : opQ P V ρ (.build t l.toArray) = buildV P t (l.map fun p => (p.1, ρ p.2)) := (rfl)
@[go_sem ↓] theorem opQ_len {t : TypeId} {x : Operand} : opQ P V ρ (.call ⟨.builtin .len, #[x], #[t]⟩) = lenV P V t (ρ x) := (rfl)
@[go_sem ↓] theorem opQ_max {ts : Array TypeId} {x y : Operand} : opQ P V ρ (.call ⟨.builtin .max, #[x, y], ts⟩) = max2V (ρ x) (ρ y) := (rfl)
@[go_sem ↓] theorem opQ_min {ts : Array TypeId} {x y : Operand} : opQ P V ρ (.call ⟨.builtin .min, #[x, y], ts⟩) = min2V (ρ x) (ρ y) := (rfl)
@[go_sem] theorem optMap_none : optMap ρ none = none := (rfl)
@[go_sem] theorem optMap_some {x : Operand} : optMap ρ (some x) = some (ρ x) := (rfl)
end

theorem PanOK.no : PanOK (fun _ _ _ => False) := fun _ _ _ _ _ h => h
theorem draw0 {n : Nat} {P : Program} {l : List Oper} {Q : Exit → En → Heap → Prop} {id : Nat} {ρ : En} {H : Heap} (p : Plan) (hm : P.follows .mixedOrders = true) (h : drawW n P l [] Q p ρ H)
    (hok : drawOK l p = true := by kernel_rfl) (hpan : PanOK Q := by repeat (first | with_reducible exact PanOK.ret | with_reducible exact PanOK.no | with_reducible refine PanOK.seq ?_ | with_reducible refine PanOK.blk ?_ | exact PanOK.ret | exact PanOK.no | refine PanOK.seq ?_ | refine PanOK.blk ?_)) : @stop ⟨CW n P (.region id l.toArray true) Q ρ H⟩ :=
  draw_by p [] hm hok hpan heldOK_nil h
theorem draw1 {n : Nat} {P : Program} {l : List Oper} {Q : Exit → En → Heap → Prop} {id : Nat} {ρ : En} {H : Heap} (p : Plan) (hm : P.follows .mixedOrders = true) (hl : List (Addr × Value)) (hh : heldOK hl H) (h : drawW n P l hl Q p ρ H)
    (hok : drawOK l p = true := by kernel_rfl) (hpan : PanOK Q := by repeat (first | with_reducible exact PanOK.ret | with_reducible exact PanOK.no | with_reducible refine PanOK.seq ?_ | with_reducible refine PanOK.blk ?_ | exact PanOK.ret | exact PanOK.no | refine PanOK.seq ?_ | refine PanOK.blk ?_)) : @stop ⟨CW n P (.region id l.toArray true) Q ρ H⟩ :=
  draw_by p hl hm hok hpan hh h

@[go_sem] theorem lookA_eq {a : Addr} {v : Value} {l : List (Addr × Value)} : lookA ((a, v) :: l) a = some v := by simp [lookA]
@[go_sem] theorem lookA_ne {b b' o o' : Nat} {v : Value} {l : List (Addr × Value)} (h : b ≠ b' ∨ o ≠ o') : lookA ((⟨b, o, none⟩, v) :: l) ⟨b', o', none⟩ = lookA l ⟨b', o', none⟩ := by
  simp only [lookA, Addr.mk.injEq, and_true]
  rw [if_neg (by omega)]
theorem heldOK_one {H : Heap} {a : Addr} {v : Value} (h : cellH H a = some v) : heldOK [(a, v)] H := by
  intro a' v' e
  unfold lookA at e
  split at e
  · rename_i ea
    cases e
    exact ea ▸ h
  · simp [lookA] at e
end Go.HL
