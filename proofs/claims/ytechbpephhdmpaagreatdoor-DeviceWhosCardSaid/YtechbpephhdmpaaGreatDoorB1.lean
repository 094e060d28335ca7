/-
  SOUNDNESS OF THE ABSTRACT INTERPRETER, first part: small words, trees, what a value stands for.
-/
import Derived.Test.YtechbpephhdmpaaGreatDoorA2
import Derived.RangeFuncLeaves
import Derived.OrdersIn
namespace Go.Sx

/-! ### small words -/

@[simp] theorem app_eq {α : Type} (a b : List α) : app a b = a ++ b := by induction a with
  | nil => rfl
  | cons x a ih => simp only [app] at *; simp [ih]
@[simp] theorem mapl_eq {α β : Type} (f : α → β) (a : List α) : mapl f a = a.map f := by induction a with
  | nil => rfl
  | cons x a ih => simp only [mapl] at *; simp [ih]
@[simp] theorem lenl_eq {α : Type} (a : List α) : lenl a = a.length := by induction a with
  | nil => rfl
  | cons x a ih => simp only [lenl] at *; simp [ih]
@[simp] theorem anyl_eq {α : Type} (f : α → Bool) (a : List α) : anyl f a = a.any f := by induction a with
  | nil => rfl
  | cons x a ih => simp only [anyl] at *; rw [List.any_cons, ← ih]; cases f x <;> rfl
@[simp] theorem alll_eq {α : Type} (f : α → Bool) (a : List α) : alll f a = a.all f := by induction a with
  | nil => rfl
  | cons x a ih => simp only [alll] at *; rw [List.all_cons, ← ih]; cases f x <;> rfl
@[simp] theorem dropl_eq {α : Type} (a : List α) (n : Nat) : dropl a n = a.drop n := by
  induction a generalizing n with
  | nil => simp [dropl]
  | cons x a ih => cases n with
    | zero => rfl
    | succ n => exact (ih n).trans (by simp)
@[simp] theorem nth?_eq {α : Type} (a : List α) (n : Nat) : nth? a n = a[n]? := by
  induction a generalizing n with
  | nil => simp [nth?]
  | cons x a ih => cases n with
    | zero => rfl
    | succ n => exact (ih n).trans (by simp)
@[simp] theorem takel_eq {α : Type} (n : Nat) (a : List α) : takel n a = a.take n := by
  induction n generalizing a with
  | zero => rfl
  | succ n ih => cases a with
    | nil => rfl
    | cons x a => exact congrArg (x :: ·) (ih a)
@[simp] theorem andb_eq (a b : Bool) : andb a b = (a && b) := by cases a <;> rfl
@[simp] theorem orb_eq (a b : Bool) : orb a b = (a || b) := by cases a <;> rfl
@[simp] theorem notb_eq (a : Bool) : notb a = !a := by cases a <;> rfl
@[simp] theorem eqB_eq (a b : Bool) : eqB a b = (a == b) := by cases a <;> cases b <;> rfl
@[simp] theorem forceN_eq {α : Type} (n : Nat) (d : α) (f : Nat → α) : forceN n d f = f n := rfl
@[simp] theorem getO_eq (o : Option Nat) (d : Nat) : getO o d = o.getD d := by cases o <;> rfl
theorem ap_some {α β : Type} {o : Option α} {f : α → Option β} {y : β} (h : ap o f = some y) : ∃ x, o = some x ∧ f x = some y := by
  cases o with
  | none => cases h
  | some x => exact ⟨x, rfl, h⟩
theorem gd_some {α : Type} {b : Bool} {x : Option α} {y : α} (h : gd b x = some y) : b = true ∧ x = some y := by
  cases b with
  | false => cases h
  | true => exact ⟨rfl, h⟩
theorem take?_some {α : Type} {n : Nat} {a b : List α} (h : take? n a = some b) : b = a.take n ∧ n ≤ a.length := by
  induction n generalizing a b with
  | zero => cases h; simp
  | succ n ih => cases a with
    | nil => cases h
    | cons x a =>
      obtain ⟨ys, h1, h2⟩ := ap_some (o := take? n a) (f := fun ys => some (x :: ys)) h
      obtain ⟨rfl, hn⟩ := ih h1
      cases h2
      simp [hn]
theorem sub?_some {α : Type} {a b : List α} {o n : Nat} (h : sub? a o n = some b) : b = (a.drop o).take n ∧ (n = 0 ∨ o + n ≤ a.length) := by
  unfold sub? at h
  obtain ⟨hb, hn⟩ := take?_some h
  simp only [dropl_eq, List.length_drop] at hb hn
  exact ⟨hb, by omega⟩
theorem mapo_some {α β : Type} {f : α → Option β} {a : List α} {b : List β} (h : mapo f a = some b) : a.map f = b.map some := by
  induction a generalizing b with
  | nil => cases h; rfl
  | cons x a ih =>
    obtain ⟨y, h1, h2⟩ := ap_some (o := f x) (f := fun y => ap (mapo f a) fun ys => some (y :: ys)) h
    obtain ⟨ys, h3, h4⟩ := ap_some h2
    cases h4
    simp [h1, ih h3]

/-- pairwise -/
def All2 {α β : Type} (R : α → β → Prop) : List α → List β → Prop
  | [], [] => True
  | a :: x, b :: y => R a b ∧ All2 R x y
  | _, _ => False
section
variable {α β : Type} {R R' : α → β → Prop}
theorem All2.length {x : List α} {y : List β} (h : All2 R x y) : x.length = y.length := by
  induction x generalizing y with
  | nil => cases y with
    | nil => rfl
    | cons => cases h
  | cons a x ih => cases y with
    | nil => cases h
    | cons b y => simp [ih h.2]
theorem All2.mono {x : List α} {y : List β} (h : All2 R x y) (hr : ∀ a b, R a b → R' a b) : All2 R' x y := by
  induction x generalizing y with
  | nil => cases y with
    | nil => trivial
    | cons => cases h
  | cons a x ih => cases y with
    | nil => cases h
    | cons b y => exact ⟨hr _ _ h.1, ih h.2⟩
theorem All2.get {x : List α} {y : List β} (h : All2 R x y) {i : Nat} {a : α} (hi : x[i]? = some a) : ∃ b, y[i]? = some b ∧ R a b := by
  induction x generalizing y i with
  | nil => simp at hi
  | cons c x ih => cases y with
    | nil => cases h
    | cons b y => cases i with
      | zero => simp at hi; exact ⟨b, by simp, hi ▸ h.1⟩
      | succ i => simp at hi; simpa using ih h.2 hi
theorem All2.get' {x : List α} {y : List β} (h : All2 R x y) {i : Nat} {b : β} (hi : y[i]? = some b) : ∃ a, x[i]? = some a ∧ R a b := by
  induction x generalizing y i with
  | nil => cases y with
    | nil => simp at hi
    | cons => cases h
  | cons c x ih => cases y with
    | nil => cases h
    | cons d y => cases i with
      | zero => simp at hi; exact ⟨c, by simp, hi ▸ h.1⟩
      | succ i => simp at hi; simpa using ih h.2 hi
theorem All2.of_get {x : List α} {y : List β} (hl : x.length = y.length) (h : ∀ (i : Nat) (a : α) (b : β), x[i]? = some a → y[i]? = some b → R a b) : All2 R x y := by
  induction x generalizing y with
  | nil => cases y with
    | nil => trivial
    | cons => simp at hl
  | cons a x ih => cases y with
    | nil => simp at hl
    | cons b y => exact ⟨h 0 a b (by simp) (by simp), ih (by simpa using hl) fun i a b h1 h2 => h (i + 1) a b (by simpa using h1) (by simpa using h2)⟩
theorem All2.append {x x' : List α} {y y' : List β} (h : All2 R x y) (h' : All2 R x' y') : All2 R (x ++ x') (y ++ y') := by
  induction x generalizing y with
  | nil => cases y with
    | nil => exact h'
    | cons => cases h
  | cons a x ih => cases y with
    | nil => cases h
    | cons b y => exact ⟨h.1, ih h.2⟩
theorem All2.take {x : List α} {y : List β} (h : All2 R x y) (n : Nat) : All2 R (x.take n) (y.take n) := by
  induction x generalizing y n with
  | nil => cases y with
    | nil => simp [All2]
    | cons => cases h
  | cons a x ih => cases y with
    | nil => cases h
    | cons b y => cases n with
      | zero => simp [All2]
      | succ n => exact ⟨h.1, ih h.2 n⟩
theorem All2.drop {x : List α} {y : List β} (h : All2 R x y) (n : Nat) : All2 R (x.drop n) (y.drop n) := by
  induction x generalizing y n with
  | nil => cases y with
    | nil => simp [All2]
    | cons => cases h
  | cons a x ih => cases y with
    | nil => cases h
    | cons b y => cases n with
      | zero => exact h
      | succ n => exact ih h.2 n
theorem All2.set {x : List α} {y : List β} (h : All2 R x y) (n : Nat) {a : α} {b : β} (hr : R a b) : All2 R (x.set n a) (y.set n b) := by
  induction x generalizing y n with
  | nil => cases y with
    | nil => simp [All2]
    | cons => cases h
  | cons c x ih => cases y with
    | nil => cases h
    | cons d y => cases n with
      | zero => exact ⟨hr, h.2⟩
      | succ n => exact ⟨h.1, ih h.2 n⟩
theorem All2.map {γ δ : Type} {S' : γ → δ → Prop} {f : γ → α} {g : δ → β} {x : List γ} {y : List δ} (h : All2 S' x y) (hr : ∀ a b, S' a b → R (f a) (g b)) : All2 R (x.map f) (y.map g) := by
  induction x generalizing y with
  | nil => cases y with
    | nil => trivial
    | cons => cases h
  | cons c x ih => cases y with
    | nil => cases h
    | cons d y => exact ⟨hr _ _ h.1, ih h.2⟩
theorem All2.nil_left {y : List β} (h : All2 R [] y) : y = [] := by cases y with
  | nil => rfl
  | cons => cases h
theorem All2.cons_left {a : α} {x : List α} {y : List β} (h : All2 R (a :: x) y) : ∃ b y', y = b :: y' ∧ R a b ∧ All2 R x y' := by cases y with
  | nil => cases h
  | cons b y => exact ⟨b, y, rfl, h.1, h.2⟩
end

/-! ### trees -/

/-- a tree that is full, of so many floors -/
def Tr.Ok {α : Type} : Nat → Tr α → Prop
  | 0, .leaf _ => True
  | d + 1, .node a b c e => Tr.Ok d a ∧ Tr.Ok d b ∧ Tr.Ok d c ∧ Tr.Ok d e
  | _, _ => False

theorem dig_cases (n : Nat) (h : n < 4) : (n = 0 ∧ dig n = .a) ∨ (n = 1 ∧ dig n = .b) ∨ (n = 2 ∧ dig n = .c) ∨ (n = 3 ∧ dig n = .d) := by
  match n, h with
  | 0, _ => exact Or.inl ⟨rfl, rfl⟩
  | 1, _ => exact Or.inr (Or.inl ⟨rfl, rfl⟩)
  | 2, _ => exact Or.inr (Or.inr (Or.inl ⟨rfl, rfl⟩))
  | 3, _ => exact Or.inr (Or.inr (Or.inr ⟨rfl, rfl⟩))

theorem pathOf_succ (d n : Nat) : pathOf (d + 1) n = dig (n % 4) :: pathOf d (n / 4) := rfl
theorem mod_pow (m n d : Nat) : m % 4 ^ (d + 1) = n % 4 ^ (d + 1) ↔ m % 4 = n % 4 ∧ (m / 4) % 4 ^ d = (n / 4) % 4 ^ d := by
  have e : (4 : Nat) ^ (d + 1) = 4 * 4 ^ d := by rw [Nat.pow_succ]; omega
  rw [e, Nat.mod_mul, Nat.mod_mul]
  have h1 := Nat.mod_lt m (by omega : 4 > 0)
  have h2 := Nat.mod_lt n (by omega : 4 > 0)
  generalize m % 4 = a at *
  generalize n % 4 = b at *
  generalize m / 4 % 4 ^ d = x at *
  generalize n / 4 % 4 ^ d = y at *
  omega

theorem Tr.set_ok {α : Type} {d : Nat} {t : Tr α} (h : t.Ok d) (x : α) (p : List Q) : (t.set x p).Ok d := by
  induction d generalizing t p with
  | zero => cases t with
    | leaf => trivial
    | node => cases h
  | succ d ih => cases t with
    | leaf => cases h
    | node a b c e =>
      obtain ⟨h1, h2, h3, h4⟩ := h
      cases p with
      | nil => exact ⟨h1, h2, h3, h4⟩
      | cons q p => cases q <;> exact ⟨by first | exact ih h1 p | exact h1, by first | exact ih h2 p | exact h2, by first | exact ih h3 p | exact h3, by first | exact ih h4 p | exact h4⟩

theorem Tr.get_set {α : Type} {d : Nat} {t : Tr α} (h : t.Ok d) (x z : α) (D m n : Nat) (hD : d ≤ D) :
    (t.set x (pathOf D m)).get z (pathOf D n) = if m % 4 ^ d = n % 4 ^ d then x else t.get z (pathOf D n) := by
  induction d generalizing t D m n with
  | zero => cases t with
    | leaf => simp [Nat.mod_one]; rfl
    | node => cases h
  | succ d ih => cases t with
    | leaf => cases h
    | node a b c e =>
      obtain ⟨h1, h2, h3, h4⟩ := h
      obtain ⟨D, rfl⟩ : ∃ k, D = k + 1 := ⟨D - 1, by omega⟩
      rw [pathOf_succ, pathOf_succ]
      have i1 := ih h1 D (m / 4) (n / 4) (by omega)
      have i2 := ih h2 D (m / 4) (n / 4) (by omega)
      have i3 := ih h3 D (m / 4) (n / 4) (by omega)
      have i4 := ih h4 D (m / 4) (n / 4) (by omega)
      simp only [mod_pow]
      rcases dig_cases (m % 4) (Nat.mod_lt _ (by omega)) with ⟨e1, e2⟩ | ⟨e1, e2⟩ | ⟨e1, e2⟩ | ⟨e1, e2⟩ <;>
      rcases dig_cases (n % 4) (Nat.mod_lt _ (by omega)) with ⟨e3, e4⟩ | ⟨e3, e4⟩ | ⟨e3, e4⟩ | ⟨e3, e4⟩ <;>
      rw [e2, e4, e1, e3] <;> simp only [true_and, false_and, if_false, Nat.reduceEqDiff] <;> first | exact i1 | exact i2 | exact i3 | exact i4 | rfl

theorem Tr.full_ok {α : Type} (v : α) (d : Nat) : (Tr.full v d).Ok d := by
  induction d with
  | zero => trivial
  | succ d ih => exact ⟨ih, ih, ih, ih⟩
theorem Tr.get_full {α : Type} (v z : α) (d D n : Nat) (h : d ≤ D) : (Tr.full v d).get z (pathOf D n) = v := by
  induction d generalizing D n with
  | zero => rfl
  | succ d ih =>
    obtain ⟨D, rfl⟩ : ∃ k, D = k + 1 := ⟨D - 1, by omega⟩
    rw [pathOf_succ]
    have := ih D (n / 4) (by omega)
    show (Tr.node _ _ _ _).get z (dig (n % 4) :: pathOf D (n / 4)) = v
    cases dig (n % 4) <;> exact this

/-! ### what a value stands for -/

/-- where a row of memory lies: its block; how many cells it may reach to -/
structure BI where
  b : Nat
  n : Nat
abbrev Mu := Nat → Option BI

def strV (s : List Nat) : Value := .string ⟨(s.map UInt8.ofNat).toArray⟩
def ptrV (m : BI) (o : Nat) : Value := .pointer (some ⟨m.b, o, none⟩)

def PtrRel (μ : Mu) (i : Nat) (v : Value) : Prop := ∃ m, μ i = some m ∧ v = ptrV m 0

def SRel (μ : Mu) : S → Value → Prop
  | .bool b, v => v = .bool b
  | .int k n, v => v = .int k n
  | .str s, v => v = strV s
  | .nilp, v => v = .pointer none
  | .ptr i o, v => ∃ m, μ i = some m ∧ v = ptrV m o
  | .nils, v => v = .slice none 0 0
  | .slc i o len c, v => ∃ m a cap, μ i = some m ∧ v = .slice (some a) len cap ∧ len ≤ cap ∧ (cap = 0 ∨ a = ⟨m.b, o, none⟩) ∧
      (match c with | .ex c => cap = c | .op s => cap * s + o = m.n)
  | .nilm, v => v = .map none
  | .map i, v => ∃ m, μ i = some m ∧ v = .map (some m.b)
  | .nilf, v => v = .nilFunc
  | .fn f a b, v => ∃ x y : Array Value, v = .func (.func f) x y ∧ All2 (PtrRel μ) a x.toList ∧ All2 (PtrRel μ) b y.toList
  | .yld l, v => ∃ m, μ l = some m ∧ v = .func (.yield m.b) #[] #[]
  | .nili, v => v = .nilIface
  | .ifc t i, v => ∃ m, μ i = some m ∧ v = .iface t (.map (some m.b))

def URel (μ : Mu) : U → Value → Prop
  | .s x, v => SRel μ x v
  | .agg l, v => ∃ cs : Array Value, v = .agg cs ∧ All2 (SRel μ) l cs.toList

def VRel (μ : Mu) : V → Value → Prop
  | .any, _ => True
  | .u x, v => URel μ x v
  | .tup l, v => ∃ vs : Array Value, v = .tuple vs ∧ All2 (URel μ) l vs.toList

/-- nothing that was known is forgotten -/
def Mu.le (μ μ' : Mu) : Prop := ∀ i m, μ i = some m → μ' i = some m
theorem Mu.le_refl (μ : Mu) : Mu.le μ μ := fun _ _ h => h
theorem Mu.le_trans {a b c : Mu} (h : Mu.le a b) (h' : Mu.le b c) : Mu.le a c := fun i m hi => h' i m (h i m hi)

section
variable {μ μ' : Mu}
theorem PtrRel.mono (h : Mu.le μ μ') {i : Nat} {v : Value} (hr : PtrRel μ i v) : PtrRel μ' i v := let ⟨m, h1, h2⟩ := hr; ⟨m, h _ _ h1, h2⟩
theorem SRel.mono (h : Mu.le μ μ') {x : S} {v : Value} (hr : SRel μ x v) : SRel μ' x v := by
  cases x <;> simp only [SRel] at hr ⊢ <;> first
    | exact hr
    | exact (let ⟨m, h1, h2⟩ := hr; ⟨m, h _ _ h1, h2⟩)
    | exact (let ⟨m, a, cap, h1, h2⟩ := hr; ⟨m, a, cap, h _ _ h1, h2⟩)
    | exact (let ⟨x, y, h1, h2, h3⟩ := hr; ⟨x, y, h1, h2.mono fun _ _ => PtrRel.mono h, h3.mono fun _ _ => PtrRel.mono h⟩)
theorem URel.mono (h : Mu.le μ μ') {x : U} {v : Value} (hr : URel μ x v) : URel μ' x v := by
  cases x with
  | s x => exact SRel.mono h hr
  | agg l => exact (let ⟨cs, h1, h2⟩ := hr; ⟨cs, h1, h2.mono fun _ _ => SRel.mono h⟩)
theorem VRel.mono (h : Mu.le μ μ') {x : V} {v : Value} (hr : VRel μ x v) : VRel μ' x v := by
  cases x with
  | any => trivial
  | u x => exact URel.mono h hr
  | tup l => exact (let ⟨cs, h1, h2⟩ := hr; ⟨cs, h1, h2.mono fun _ _ => URel.mono h⟩)

/-- a cell's value is no struct and no tuple -/
theorem SRel.cell {x : S} {v : Value} (h : SRel μ x v) : (∀ cs, v ≠ .agg cs) ∧ (∀ vs, v ≠ .tuple vs) := by
  cases x <;> simp only [SRel, strV, ptrV] at h <;> first
    | (subst h; simp)
    | (obtain ⟨m, _, rfl⟩ := h; simp)
    | (obtain ⟨m, a, cap, _, rfl, _⟩ := h; simp)
    | (obtain ⟨x, y, rfl, _⟩ := h; simp)
theorem SRel.cells {x : S} {v : Value} (h : SRel μ x v) : v.cells = #[v] := by
  have := h.cell.1
  cases v <;> first | rfl | exact absurd rfl (this _)
theorem URel.cells {x : U} {v : Value} (h : URel μ x v) : All2 (SRel μ) (uCells x) v.cells.toList := by
  cases x with
  | s x => rw [SRel.cells h]; exact ⟨h, trivial⟩
  | agg l => obtain ⟨cs, rfl, hc⟩ := h; exact hc
end

end Go.Sx
