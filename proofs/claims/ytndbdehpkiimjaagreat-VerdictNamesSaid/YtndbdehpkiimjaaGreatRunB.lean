
/- Closed runs: what an abstract value and an abstract heap say of real ones. -/
import Derived.Test.YtndbdehpkiimjaaGreatRunA
namespace Go.Run
set_option linter.unusedSimpArgs false
set_option linter.unusedVariables false
open Go.HL

/-- Where an abstract block lies: its real block, the place of its first cell there, the cells of the real block. -/
structure Ent where
  r : Nat
  s : Nat
  n : Nat
abbrev Phi := Id → Option Ent
def Phi.le (φ φ' : Phi) : Prop := ∀ i e, φ i = some e → φ' i = some e
theorem Phi.le_refl (φ : Phi) : φ.le φ := fun _ _ h => h
theorem Phi.le.trans {φ φ' φ'' : Phi} (h : φ.le φ') (h' : φ'.le φ'') : φ.le φ'' := fun i e x => h' i e (h i e x)

def nilOf : Nat → Value
  | 0 => .pointer none
  | 1 => .slice none 0 0
  | 2 => .map none
  | 3 => .nilFunc
  | _ => .nilIface

variable {σ : Nat → Value}
mutual
def VR (σ : Nat → Value) (φ : Phi) : AV → Value → Prop
  | .u, _ => True
  | .b x, w => w = .bool x
  | .n x, w => w = .int .i64 x ∧ x < 2 ^ 63
  | .z g x, w => w = .int g x
  | .s l, w => ∃ bs : ByteArray, w = .string bs ∧ bs.data.toList.map UInt8.toNat = l
  | .p i o, w => ∃ e, φ i = some e ∧ w = .pointer (some ⟨e.r, e.s + o, none⟩)
  | .q i o len cap z ex, w => ∃ e x c, φ i = some e ∧ w = .slice (some ⟨e.r, x, none⟩) len c ∧ (len ≤ cap ∧ cap < 9223372036854775808) ∧ cap ≤ c ∧ (x + c * z ≤ e.n ∧ (c ≠ 0 → x + c * z = e.n)) ∧ (cap ≠ 0 ∨ ex = true → x = e.s + o) ∧ (ex = true → c = cap)
  | .m i, w => ∃ e, φ i = some e ∧ w = .map (some e.r)
  | .nil g, w => w = nilOf g
  | .f fn xs ys, w => ∃ xs' ys', w = .func (.func fn) xs' ys' ∧ VRl σ φ xs xs'.toList ∧ VRl σ φ ys ys'.toList
  | .i t v, w => ∃ v', w = .iface t v' ∧ VR σ φ v v'
  | .a l, w => ∃ c, w = .agg c ∧ VRl σ φ l c.toList
  | .t l, w => ∃ c, w = .tuple c ∧ VRl σ φ l c.toList
  | .x j, w => w = σ j
def VRl (σ : Nat → Value) (φ : Phi) : List AV → List Value → Prop
  | [], ws => ws = []
  | v :: l, ws => ∃ w ws', ws = w :: ws' ∧ VR σ φ v w ∧ VRl σ φ l ws'
end
mutual
theorem VR.mono {φ φ' : Phi} (h : φ.le φ') : ∀ (v : AV) (w : Value), VR σ φ v w → VR σ φ' v w
  | .u, _ => fun _ => by simp [VR]
  | .b x, w => by simp only [VR]; exact id
  | .n x, w => by simp only [VR]; exact id
  | .z g x, w => by simp only [VR]; exact id
  | .s l, w => by simp only [VR]; exact id
  | .p i o, w => by simp only [VR]; exact fun ⟨e, h1, h2⟩ => ⟨e, h _ _ h1, h2⟩
  | .q i o len cap z ex, w => by simp only [VR]; exact fun ⟨e, x, c, h1, h2⟩ => ⟨e, x, c, h _ _ h1, h2⟩
  | .m i, w => by simp only [VR]; exact fun ⟨e, h1, h2⟩ => ⟨e, h _ _ h1, h2⟩
  | .nil g, w => by simp only [VR]; exact id
  | .f fn xs ys, w => by simp only [VR]; exact fun ⟨xs', ys', h1, h2, h3⟩ => ⟨xs', ys', h1, VRl.mono h _ _ h2, VRl.mono h _ _ h3⟩
  | .i t v, w => by simp only [VR]; exact fun ⟨v', h1, h2⟩ => ⟨v', h1, VR.mono h _ _ h2⟩
  | .a l, w => by simp only [VR]; exact fun ⟨c, h1, h2⟩ => ⟨c, h1, VRl.mono h _ _ h2⟩
  | .t l, w => by simp only [VR]; exact fun ⟨c, h1, h2⟩ => ⟨c, h1, VRl.mono h _ _ h2⟩
  | .x j, w => by simp only [VR]; exact id
theorem VRl.mono {φ φ' : Phi} (h : φ.le φ') : ∀ (l : List AV) (ws : List Value), VRl σ φ l ws → VRl σ φ' l ws
  | [], ws => by simp only [VRl]; exact id
  | v :: l, ws => by simp only [VRl]; exact fun ⟨w, ws', h1, h2, h3⟩ => ⟨w, ws', h1, VR.mono h _ _ h2, VRl.mono h _ _ h3⟩
end
theorem VRl.length {φ : Phi} : ∀ {l : List AV} {ws : List Value}, VRl σ φ l ws → l.length = ws.length
  | [], ws, h => by simp only [VRl] at h; subst h; rfl
  | v :: l, ws, h => by
    simp only [VRl] at h
    obtain ⟨w, ws', rfl, _, h3⟩ := h
    simp [VRl.length h3]
theorem VRl.get {φ : Phi} : ∀ {l : List AV} {ws : List Value} {j : Nat} {v : AV}, VRl σ φ l ws → l[j]? = some v → ∃ w, ws[j]? = some w ∧ VR σ φ v w
  | [], ws, j, v, h, hj => by simp at hj
  | v' :: l, ws, 0, v, h, hj => by
    simp only [VRl] at h
    obtain ⟨w, ws', rfl, h2, _⟩ := h
    simp at hj; subst hj
    exact ⟨w, rfl, h2⟩
  | v' :: l, ws, j + 1, v, h, hj => by
    simp only [VRl] at h
    obtain ⟨w, ws', rfl, _, h3⟩ := h
    simp at hj
    obtain ⟨w', h4, h5⟩ := VRl.get h3 hj
    exact ⟨w', by simpa using h4, h5⟩
theorem VRl.app {φ : Phi} : ∀ {l l' : List AV} {ws ws' : List Value}, VRl σ φ l ws → VRl σ φ l' ws' → VRl σ φ (l ++ l') (ws ++ ws')
  | [], l', ws, ws', h, h' => by simp only [VRl] at h; subst h; exact h'
  | v :: l, l', ws, ws', h, h' => by
    simp only [VRl] at h
    obtain ⟨w, ws1, rfl, h2, h3⟩ := h
    simp only [List.cons_append, VRl]
    exact ⟨w, ws1 ++ ws', rfl, h2, VRl.app h3 h'⟩
theorem VRl.of_get {φ : Phi} : ∀ {l : List AV} {ws : List Value}, l.length = ws.length → (∀ (j : Nat) v w, l[j]? = some v → ws[j]? = some w → VR σ φ v w) → VRl σ φ l ws
  | [], ws, h, _ => by simp at h; simp [VRl]; exact List.eq_nil_of_length_eq_zero h.symm
  | v :: l, [], h, _ => by simp at h
  | v :: l, w :: ws, h, h' => by
    simp only [VRl]
    exact ⟨w, ws, rfl, h' 0 v w rfl rfl, VRl.of_get (by simpa using h) fun j v w h1 h2 => h' (j + 1) v w (by simpa using h1) (by simpa using h2)⟩

/-! ### Cells of a block -/
noncomputable section
inductive CT where
  | c1 (t : N16 AV)
  | c2 (t : N16 (N16 AV))
  | c3 (t : N16 (N16 (N16 AV)))
  | c4 (t : N16 (N16 (N16 (N16 AV))))
def lo4 (n : Nat) : Nat := Nat.land n 15
def hi4 (n : Nat) : Nat := Nat.shiftRight n 4
def CT.gsel (t : CT) : Nat → AV := @CT.rec (fun _ => Nat → AV) (fun t n => selN n t) (fun t n => selN (lo4 n) (selN (hi4 n) t))
  (fun t n => selN (lo4 n) (selN (lo4 (hi4 n)) (selN (hi4 (hi4 n)) t))) (fun t n => selN (lo4 n) (selN (lo4 (hi4 n)) (selN (lo4 (hi4 (hi4 n))) (selN (hi4 (hi4 (hi4 n))) t)))) t
def CT.get (t : CT) (n : Nat) : AV := CT.gsel t n
def kAV (v : AV) : AV → AV := fun _ => v
def CT.ssel (t : CT) : Nat → AV → CT := @CT.rec (fun _ => Nat → AV → CT) (fun t n v => .c1 (upd (dig n) (kAV v) t)) (fun t n v => .c2 (upd (dig (hi4 n)) (upd (dig (lo4 n)) (kAV v)) t))
  (fun t n v => .c3 (upd (dig (hi4 (hi4 n))) (upd (dig (lo4 (hi4 n))) (upd (dig (lo4 n)) (kAV v))) t))
  (fun t n v => .c4 (upd (dig (hi4 (hi4 (hi4 n)))) (upd (dig (lo4 (hi4 (hi4 n)))) (upd (dig (lo4 (hi4 n))) (upd (dig (lo4 n)) (kAV v)))) t)) t
def CT.set (t : CT) (n : Nat) (v : AV) : CT := CT.ssel t n v
def CT.room (t : CT) : Nat := @CT.rec (fun _ => Nat) (fun _ => 16) (fun _ => 256) (fun _ => 4096) (fun _ => 65536) t
/-- The same cells with more room. -/
def e1 : N16 AV := all16 .u
def e2 : N16 (N16 AV) := all16 e1
def e3 : N16 (N16 (N16 AV)) := all16 e2
def CT.up (t : CT) : CT := @CT.rec (fun _ => CT) (fun t => .c2 (.mk t e1 e1 e1 e1 e1 e1 e1 e1 e1 e1 e1 e1 e1 e1 e1)) (fun t => .c3 (.mk t e2 e2 e2 e2 e2 e2 e2 e2 e2 e2 e2 e2 e2 e2 e2))
  (fun t => .c4 (.mk t e3 e3 e3 e3 e3 e3 e3 e3 e3 e3 e3 e3 e3 e3 e3)) (fun t => .c4 t) t
/-- A tree of one value throughout, with room for n. -/
def CT.fill (n : Nat) (v : AV) : CT :=
  @Bool.rec (fun _ => CT) (@Bool.rec (fun _ => CT) (@Bool.rec (fun _ => CT) (.c4 (all16 (all16 (all16 (all16 v))))) (.c3 (all16 (all16 (all16 v)))) (Nat.ble n 4096)) (.c2 (all16 (all16 v))) (Nat.ble n 256)) (.c1 (all16 v)) (Nat.ble n 16)

theorem lo4_eq (n : Nat) : lo4 n = n % 16 := Nat.and_two_pow_sub_one_eq_mod n 4
theorem hi4_eq (n : Nat) : hi4 n = n / 16 := Nat.shiftRight_eq_div_pow n 4
theorem dig_ne {n m : Nat} (hn : n < 16) (hm : m < 16) (h : n ≠ m) : dig n ≠ dig m := fun e => h (dig_inj hn hm e)
theorem CT.get_set (t : CT) (n : Nat) (v : AV) : (t.set n v).get n = v := by
  cases t <;> simp only [CT.set, CT.ssel, kAV, CT.get, CT.gsel, selN_eq, sel_upd]
theorem CT.room_set (t : CT) (n : Nat) (v : AV) : (t.set n v).room = t.room := by cases t <;> rfl
theorem CT.get_set' {t : CT} {n m : Nat} (hn : n < t.room) (hm : m < t.room) (h : m ≠ n) (v : AV) : (t.set n v).get m = t.get m := by
  have key : ∀ x y : Nat, x ≠ y → x % 16 = y % 16 → x / 16 ≠ y / 16 := by omega
  cases t with
  | c1 t =>
    simp only [CT.room] at hn hm
    simp only [CT.set, CT.ssel, kAV, CT.get, CT.gsel, selN_eq]
    rw [sel_upd' (dig_ne hm hn h)]
  | c2 t =>
    simp only [CT.room] at hn hm
    simp only [CT.set, CT.ssel, kAV, CT.get, CT.gsel, selN_eq, lo4_eq, hi4_eq]
    by_cases e : m / 16 = n / 16
    · rw [e, sel_upd, sel_upd' (dig_ne (by omega) (by omega) (by omega))]
    · rw [sel_upd' (dig_ne (by omega) (by omega) e)]
  | c3 t =>
    simp only [CT.room] at hn hm
    simp only [CT.set, CT.ssel, kAV, CT.get, CT.gsel, selN_eq, lo4_eq, hi4_eq]
    by_cases e : m / 16 / 16 = n / 16 / 16
    · by_cases e' : m / 16 % 16 = n / 16 % 16
      · rw [e, e', sel_upd, sel_upd, sel_upd' (dig_ne (by omega) (by omega) (by omega))]
      · rw [e, sel_upd, sel_upd' (dig_ne (by omega) (by omega) e')]
    · rw [sel_upd' (dig_ne (by omega) (by omega) e)]
  | c4 t =>
    simp only [CT.room] at hn hm
    simp only [CT.set, CT.ssel, kAV, CT.get, CT.gsel, selN_eq, lo4_eq, hi4_eq]
    by_cases e : m / 16 / 16 / 16 = n / 16 / 16 / 16
    · by_cases e' : m / 16 / 16 % 16 = n / 16 / 16 % 16
      · by_cases e'' : m / 16 % 16 = n / 16 % 16
        · rw [e, e', e'', sel_upd, sel_upd, sel_upd, sel_upd' (dig_ne (by omega) (by omega) (by omega))]
        · rw [e, e', sel_upd, sel_upd, sel_upd' (dig_ne (by omega) (by omega) e'')]
      · rw [e, sel_upd, sel_upd' (dig_ne (by omega) (by omega) e')]
    · rw [sel_upd' (dig_ne (by omega) (by omega) e)]
theorem CT.room_up (t : CT) : t.room ≤ t.up.room := by cases t <;> simp [CT.up, CT.room]
theorem CT.get_up {t : CT} {n : Nat} (hn : n < t.room) : t.up.get n = t.get n := by
  cases t with
  | c1 t => simp only [CT.room] at hn; simp only [CT.up, CT.get, CT.gsel, hi4_eq, lo4_eq]; rw [show n / 16 = 0 by omega, show n % 16 = n by omega]; rfl
  | c2 t => simp only [CT.room] at hn; simp only [CT.up, CT.get, CT.gsel, hi4_eq, lo4_eq]; rw [show n / 16 / 16 = 0 by omega, show n / 16 % 16 = n / 16 by omega]; rfl
  | c3 t => simp only [CT.room] at hn; simp only [CT.up, CT.get, CT.gsel, hi4_eq, lo4_eq]; rw [show n / 16 / 16 / 16 = 0 by omega, show n / 16 / 16 % 16 = n / 16 / 16 by omega]; rfl
  | c4 t => rfl
theorem CT.get_fill (n : Nat) (v : AV) (m : Nat) : (CT.fill n v).get m = v := by
  unfold CT.fill
  cases Nat.ble n 4096 <;> cases Nat.ble n 256 <;> cases Nat.ble n 16 <;> simp only [CT.get, CT.gsel, selN_eq, sel_all]
theorem CT.room_fill (n : Nat) (v : AV) (h : n ≤ 65536) : n ≤ (CT.fill n v).room := by
  unfold CT.fill
  cases h1 : Nat.ble n 16 with
  | true => have := Nat.le_of_ble_eq_true h1; simpa [CT.room] using this
  | false =>
    cases h2 : Nat.ble n 256 with
    | true => have := Nat.le_of_ble_eq_true h2; simpa [CT.room] using this
    | false =>
      cases h3 : Nat.ble n 4096 with
      | true => have := Nat.le_of_ble_eq_true h3; simpa [CT.room] using this
      | false => simpa [CT.room] using h

/-! ### Blocks, and the heap of them -/
abbrev MT := N16 (N16 (List (AV × AV)))
inductive AB where
  | no
  | c (ro : Bool) (len : Nat) (t : CT)
  | mp (g n : Nat) (m : MT)
def AB.on_c {α : Type} (x : AB) (k : Bool → Nat → CT → α) (no : α) : α := @AB.rec (fun _ => α) no k (fun _ _ _ => no) x
def AB.on_m {α : Type} (x : AB) (k : Nat → Nat → MT → α) (no : α) : α := @AB.rec (fun _ => α) no (fun _ _ _ => no) k x
theorem AB.on_c_eq {α : Type} (x : AB) (k : Bool → Nat → CT → α) (no : α) : (∃ ro len t, x = .c ro len t ∧ x.on_c k no = k ro len t) ∨ x.on_c k no = no := by
  cases x <;> first | exact .inl ⟨_, _, _, rfl, rfl⟩ | exact .inr rfl
theorem AB.on_m_eq {α : Type} (x : AB) (k : Nat → Nat → MT → α) (no : α) : (∃ g n m, x = .mp g n m ∧ x.on_m k no = k g n m) ∨ x.on_m k no = no := by
  cases x <;> first | exact .inl ⟨_, _, _, rfl, rfl⟩ | exact .inr rfl
structure AH where
  t : N16 (N16 (N16 (N16 (N16 AB))))
  nx : Id
def AH.get (A : AH) (i : Id) : AB := sel i.a (sel i.b (sel i.c (sel i.d (sel i.e A.t))))
def AH.set (A : AH) (i : Id) (x : AB) : AH := @AH.rec (fun _ => AH) (fun t nx => @Id.rec (fun _ => AH) (fun a b c d e => ⟨upd e (upd d (upd c (upd b (upd a fun _ => x)))) t, nx⟩) i) A
def AH.to (A : AH) (nx : Id) : AH := ⟨A.t, nx⟩
theorem AH.get_set (A : AH) (i : Id) (x : AB) : (A.set i x).get i = x := by
  cases A; cases i; simp only [AH.set, AH.get, sel_upd]
theorem AH.get_set' (A : AH) {i j : Id} (h : j ≠ i) (x : AB) : (A.set i x).get j = A.get j := by
  obtain ⟨t, nx⟩ := A; obtain ⟨a, b, c, d, e⟩ := i; obtain ⟨a', b', c', d', e'⟩ := j
  simp only [AH.set, AH.get]
  by_cases he : e' = e
  · subst he
    rw [sel_upd]
    by_cases hd : d' = d
    · subst hd
      rw [sel_upd]
      by_cases hc : c' = c
      · subst hc
        rw [sel_upd]
        by_cases hb : b' = b
        · subst hb
          rw [sel_upd, sel_upd' (fun ha => h (by rw [ha]))]
        · rw [sel_upd' hb]
      · rw [sel_upd' hc]
    · rw [sel_upd' hd]
  · rw [sel_upd' he]
theorem upd_upd {α : Type} (d : D16) (f g : α → α) (t : N16 α) : upd d f (upd d g t) = upd d (fun x => f (g x)) t := by cases t; cases d <;> rfl
theorem AH.set_set (A : AH) (i : Id) (x y : AB) : (A.set i x).set i y = A.set i y := by
  cases A; cases i; simp only [AH.set, upd_upd]
theorem AH.nx_set (A : AH) (i : Id) (x : AB) : (A.set i x).nx = A.nx := by cases A; cases i; rfl
theorem AH.get_to (A : AH) (nx : Id) (i : Id) : (A.to nx).get i = A.get i := rfl

/-- Keys of maps. -/
def keyV : AV → Option Value
  | .n x => if x < 9223372036854775808 then some (.int .i64 x) else none
  | .z .i64 x => if x < 0 then some (.int .i64 x) else none
  | .s l => if l.all (fun x => decide (x < 256)) = true then some (.string ⟨(l.map UInt8.ofNat).toArray⟩) else none
  | .a [.n x, .n y] => if x < 9223372036854775808 ∧ y < 9223372036854775808 then some (.agg #[.int .i64 x, .int .i64 y]) else none
  | _ => none
/-- 0: numbers, 1: texts, 2: pairs of numbers. -/
def clsA (k : AV) : Nat := @AV.rec (fun _ => Nat) (fun _ => PUnit) 9 (fun _ => 9) (fun _ => 0) (fun _ _ => 0) (fun _ => 1) (fun _ _ => 9) (fun _ _ _ _ _ _ => 9) (fun _ => 9) (fun _ => 9) (fun _ _ _ _ _ => 9) (fun _ _ _ => 9)
  (fun _ _ => 2) (fun _ _ => 9) (fun _ => 9) .unit (fun _ _ _ _ => .unit) k
def hashA (k : AV) : Nat := @AV.rec (fun _ => Nat) (fun _ => PUnit) 0 (fun _ => 0) (fun x => x) (fun _ x => @Int.rec (fun _ => Nat) (fun x => x) (fun x => x) x) (fun l => l.foldl (fun h x => Nat.land (Nat.add (Nat.mul h 31) x) 65535) 7) (fun _ _ => 0) (fun _ _ _ _ _ _ => 0) (fun _ => 0) (fun _ => 0) (fun _ _ _ _ _ => 0) (fun _ _ _ => 0)
  (fun l _ => l.foldl (fun h v => AV.on_n v (fun x => Nat.add (Nat.mul h 31) x) h) 0) (fun _ _ => 0) (fun _ => 0) .unit (fun _ _ _ _ => .unit) k
def bktH (h : Nat) (m : MT) : List (AV × AV) := selN (lo4 h) (selN (lo4 (hi4 h)) m)
def bucket (k : AV) (m : MT) : List (AV × AV) := bktH (hashA k) m
/-- A real map has just the entries of the buckets. -/
structure MR (σ : Nat → Value) (φ : Phi) (g n : Nat) (m : MT) (es : List MapEntry) : Prop where
  size : es.length = n
  nodup : (es.map (·.key)).Nodup
  real : ∀ k w x, keyV k = some w → (k, x) ∈ bucket k m → ∃ e ∈ es, e.key = w ∧ VR σ φ x e.val
  all : ∀ e ∈ es, ∃ k x, keyV k = some e.key ∧ clsA k = g ∧ (k, x) ∈ bucket k m
  vk : ∀ k e, e ∈ bucket k m → ∃ w, keyV e.1 = some w

/-- Blocks that are only read, and that must stay as they are. -/
def stat (σ : Nat → Value) (r : Nat) : Prop := σ r = .bool true
theorem nfr {p q : Prop} (h : p ∨ false = true ∧ q) : p := h.resolve_right fun x => by cases x.1
def BR (σ : Nat → Value) (φ : Phi) (F : Nat → Option Obj) (H : Heap) (i : Id) : AB → Prop
  | .no => True
  | .c ro len t => ∃ e, φ i = some e ∧ (F e.r = none ∨ ro = true ∧ stat σ e.r) ∧ len ≤ t.room ∧ e.s + len ≤ e.n ∧
      ∃ c el fr, H[e.r]? = some (.cells c el fr) ∧ (ro = false → c.size = e.n) ∧ (ro = false → fr.1 = fr.2) ∧ ∀ o, o < len → ∃ w, c[e.s + o]? = some w ∧ VR σ φ (t.get o) w
  | .mp g n m => ∃ e, φ i = some e ∧ F e.r = none ∧ ∃ es clk, H[e.r]? = some (.map es clk) ∧ MR σ φ g n m es.toList
structure Rel (σ : Nat → Value) (F : Nat → Option Obj) (φ : Phi) (A : AH) (H : Heap) : Prop where
  dom : ∀ i e, φ i = some e → i.nat < A.nx.nat
  liv : ∀ i, BR σ φ F H i (A.get i)
  inj : ∀ i j e e', A.get i ≠ .no → A.get j ≠ .no → φ i = some e → φ j = some e' → e.r = e'.r → i = j
  frm : ∀ r o, F r = some o → H[r]? = some o
  st : ∀ r, stat σ r → r < H.size
end
end Go.Run
