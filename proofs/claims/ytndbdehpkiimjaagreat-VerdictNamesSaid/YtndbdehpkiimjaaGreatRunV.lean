
/- Closed runs: all that is to be checked of annotated code, as one equation. -/
import Derived.Test.YtndbdehpkiimjaaGreatRunL
namespace Go.Run
open Go.HL
variable {σ : Nat → Value} {F : Nat → Option Obj} {φ : Phi} {A : AH} {H : Heap} {P : Program} {V : HV}
noncomputable section
set_option linter.unusedVariables false

inductive LT where
  | z
  | e (k : Kt)
  | p (a b : LT)
  | f (g : Nat → LT)
  | b (x : Bool)
abbrev An.onDL (a : An) (k : Plan → LT) : LT := @An.rec (fun _ => LT) .z (fun _ _ _ _ => .z) (fun _ _ _ _ _ _ => .z) (fun _ _ _ _ => .z) (fun _ _ => .z) (fun _ _ _ _ _ => .z) k a
abbrev An.onSL (an : An) (ks : An → An → LT) (kj : (l : List Nat) → JF l.length → An → An → LT) : LT := @An.rec (fun _ => LT) .z (fun a b _ _ => ks a b) (fun l g a b _ _ => kj l g a b) (fun _ _ _ _ => .z) (fun _ _ => .z) (fun _ _ _ _ _ => .z) (fun _ => .z) an
abbrev An.onCL (an : An) (k : An → An → LT) : LT := @An.rec (fun _ => LT) .z (fun _ _ _ _ => .z) (fun _ _ _ _ _ _ => .z) (fun a b _ _ => k a b) (fun _ _ => .z) (fun _ _ _ _ _ => .z) (fun _ => .z) an
abbrev An.onBL (an : An) (k : An → LT) : LT := @An.rec (fun _ => LT) .z (fun _ _ _ _ => .z) (fun _ _ _ _ _ _ => .z) (fun _ _ _ _ => .z) (fun a _ => k a) (fun _ _ _ _ _ => .z) (fun _ => .z) an
abbrev An.onLL (an : An) (k : (l : List Nat) → (Nat → JF l.length) → Nat → (Nat → An) → LT) : LT := @An.rec (fun _ => LT) .z (fun _ _ _ _ => .z) (fun _ _ _ _ _ _ => .z) (fun _ _ _ _ => .z) (fun _ _ => .z) (fun l g m a _ => k l g m a) (fun _ => .z) an
/-- side true: the label functions; side false: the runs that they are to be. -/
abbrev col (T : TR) (Tb : FT) (n : Nat) (side : Bool) (c : Code) : An → KN → LT :=
  @Code.rec (fun _ => An → KN → LT)
    (fun _ _ => .z)
    (fun _ ops draw an kn => @Bool.rec (fun _ => LT) (.b (@Bool.rec (fun _ => Bool) (dstsOK n ops.toList) true side)) (an.onDL fun p => .p (.b (@Bool.rec (fun _ => Bool) (dstsOK n ops.toList) true side)) (.b (@Bool.rec (fun _ => Bool) (drawOK2 ops.toList p) true side))) draw)
    (fun _ y ix iy an kn => an.onSL (fun a b => .p (ix a (kn.to (runC T Tb y b kn))) (iy b kn))
      (fun l g a b => .p (.e (@Bool.rec (fun _ => Kt) (fun ρ A => runC T Tb y b kn (keepS l ρ noA) A) (jmp l g) side)) (.p (ix a (kn.to (jmp l g))) (iy b kn))))
    (fun _ _ _ ix iy an kn => an.onCL fun a b => .p (ix a kn) (iy b kn))
    (fun id _ ix an kn => an.onBL fun a => ix a (kn.blk id))
    (fun x ix an kn => an.onLL fun l g m a => .p (.e (@Bool.rec (fun _ => Kt) noK (jmp l (g 0)) side))
      (.f fun m => .p (.e (@Bool.rec (fun _ => Kt) (fun ρ A => runC T Tb x (a m) (kn.to (jmp l (g m))) (keepS l ρ noA) A) (jmp l (g (Nat.succ m))) side)) (ix (a m) (kn.to (jmp l (g m))))))
    (fun _ _ _ _ _ _ _ _ => .z)
    (fun i _ kn => .z)
    (fun _ _ _ _ => .z)
    (fun _ _ kn => .z)
    (fun _ _ _ => .z)
    (fun _ kn => .z)
    (fun _ _ _ => .z) c
theorem col_good {T : TR} {Tb : FT} {n : Nat} : ∀ (c : Code) (an : An) (kn : KN), col T Tb n true c an kn = col T Tb n false c an kn → Good T Tb n c an kn := by
  intro c
  induction c with
  | region id ops draw =>
    intro an kn h
    cases draw with
    | false =>
      have h5 : dstsOK n ops.toList = true := by
        have h : LT.b true = LT.b (dstsOK n ops.toList) := h
        injection h with h
        exact h.symm
      clear h
      cases an <;> exact h5
    | true =>
      cases an with
      | d p =>
        have h : LT.p (.b true) (.b true) = LT.p (.b (dstsOK n ops.toList)) (.b (drawOK2 ops.toList p)) := h
        injection h with h1 h2
        injection h1 with h1
        injection h2 with h2
        exact ⟨h1.symm, h2.symm⟩
      | _ => trivial
  | seq x y ihx ihy =>
    intro an kn h
    cases an with
    | s a b =>
      have h : LT.p (col T Tb n true x a (kn.to (runC T Tb y b kn))) (col T Tb n true y b kn) = LT.p (col T Tb n false x a (kn.to (runC T Tb y b kn))) (col T Tb n false y b kn) := h
      injection h with h1 h2
      exact ⟨ihx _ _ h1, ihy _ _ h2⟩
    | j l g a b =>
      have h : LT.p (.e (jmp l g)) (.p (col T Tb n true x a (kn.to (jmp l g))) (col T Tb n true y b kn)) = LT.p (.e (fun ρ A => runC T Tb y b kn (keepS l ρ noA) A)) (.p (col T Tb n false x a (kn.to (jmp l g))) (col T Tb n false y b kn)) := h
      injection h with h0 h
      injection h0 with h0
      injection h with h1 h2
      exact ⟨fun ρ A => congrFun (congrFun h0 ρ) A, ihx _ _ h1, ihy _ _ h2⟩
    | _ => trivial
  | cond c x y ihx ihy =>
    intro an kn h
    cases an with
    | c a b =>
      have h : LT.p (col T Tb n true x a kn) (col T Tb n true y b kn) = LT.p (col T Tb n false x a kn) (col T Tb n false y b kn) := h
      injection h with h1 h2
      exact ⟨ihx _ _ h1, ihy _ _ h2⟩
    | _ => trivial
  | block id x ih =>
    intro an kn h
    cases an with
    | b a => exact ih a _ h
    | _ => trivial
  | loop x ih =>
    intro an kn h
    cases an with
    | l l g m a =>
      have h : LT.p (.e (jmp l (g 0))) (.f fun m => .p (.e (jmp l (g (Nat.succ m)))) (col T Tb n true x (a m) (kn.to (jmp l (g m))))) =
        LT.p (.e noK) (.f fun m => .p (.e (fun ρ A => runC T Tb x (a m) (kn.to (jmp l (g m))) (keepS l ρ noA) A)) (col T Tb n false x (a m) (kn.to (jmp l (g m))))) := h
      injection h with h0 h
      injection h0 with h0
      injection h with h
      refine ⟨fun ρ A => congrFun (congrFun h0 ρ) A, fun m => ?_⟩
      have h := congrFun h m
      injection h with h1 h2
      injection h1 with h1
      exact ⟨fun ρ A => congrFun (congrFun h1 ρ) A, ih _ _ h2⟩
    | _ => trivial
  | _ => intro an kn h; cases an <;> trivial
/-- The contract of a function, all of it by equations. -/
theorem fok_col {f : Nat} {fn : Func} {c : Code} {rs : List ResultVar} {n m : Nat} {T : TR} {Tb : FT} {an : (AV → AH → Bool) → An} {G : FF m} (hm : P.follows .mixedOrders = true) (hT : TTok P T) (hTb : TOK P Tb)
    (hf : P.funcs[f]? = some fn) (hb : fn.body = some c) (hn : fn.ntmps = n) (hrs : fn.results = rs.toArray) (hname : (fn.name == "runtime.NumGoroutine") = false) (hmn : Nat.ble m n = true)
    (hF : G = curF (fun ρ A K => runC T Tb c (an K) (knK T rs K) ρ A) m 0 noA) (hg : (fun K => col T Tb n true c (an K) (knK T rs K)) = fun K => col T Tb n false c (an K) (knK T rs K)) : FOK P f m G :=
  fok_of hm hT hTb hf hb hn hrs hname hmn hF fun K => col_good _ _ _ (congrFun hg K)
/-- A function that calls itself, by the rounds that it may take. -/
theorem fok_rec {f : Nat} {m : Nat} {G : Nat → FF m} (h0 : ∀ l A K, appF m (G 0) l A K = false) (hs : ∀ k, FOK P f m (G k) → FOK P f m (G (k + 1))) : ∀ k, FOK P f m (G k) := by
  intro k
  induction k with
  | zero => intro σ F φ A H args ws K _ _ hk; rw [h0] at hk; cases hk
  | succ k ih => exact hs k ih
theorem no_of {b : Bool} (h : b = true → False) : b = false := by cases b <;> simp_all
theorem TOK.nil : TOK P [] := fun e he => by simp at he
theorem TOK.cons {Tb : FT} {f n : Nat} {g : FF n} (h : FOK P f n g) (ht : TOK P Tb) : TOK P (⟨f, n, g, noP⟩ :: Tb) := fun e he => by
  rcases List.mem_cons.1 he with rfl | he
  · exact ⟨h, fun _ _ _ _ _ _ h => by cases h⟩
  · exact ht e he
theorem TOK.conp {Tb : FT} {f n : Nat} {g : FF n} {p : List AV → (AV → Bool) → Bool} (h : FOK P f n g) (hp : PUR P f p) (ht : TOK P Tb) : TOK P (⟨f, n, g, p⟩ :: Tb) := fun e he => by
  rcases List.mem_cons.1 he with rfl | he
  · exact ⟨h, hp⟩
  · exact ht e he
end
end Go.Run
