/-
  SOUNDNESS OF THE ABSTRACT INTERPRETER, fourth part: arithmetic, texts, comparing.
-/
import Derived.Test.YtechbpephhdmpaaGreatDoorB3
import Derived.Laws.Strings
import Derived.Laws.Cover1
namespace Go.Sx

section
variable {P : Program} {w : World} {μ : Mu}

theorem modK_eq (k : IntKind) : modK k = 2 ^ k.bits := by cases k <;> rfl
theorem bitsK_eq (k : IntKind) : bitsK k = k.bits := by cases k <;> rfl
theorem toNat_ofInt (k : IntKind) (a : Int) : (BitVec.ofInt k.bits a).toNat = modU (modK k) a := by
  have h : 0 < modK k := by rw [modK_eq]; exact Nat.two_pow_pos _
  have e := modU_eq (modK k) h a
  rw [BitVec.toNat_ofInt, modK_eq] at *
  omega

theorem bitF_land (k : IntKind) (a b : Int) : bitF Nat.land k a b = int k (k.wrap (BitVec.ofInt k.bits a &&& BitVec.ofInt k.bits b).toNat) := by
  unfold bitF; rw [wrapK_eq, BitVec.toNat_and, toNat_ofInt, toNat_ofInt]; rfl
theorem bitF_lor (k : IntKind) (a b : Int) : bitF Nat.lor k a b = int k (k.wrap (BitVec.ofInt k.bits a ||| BitVec.ofInt k.bits b).toNat) := by
  unfold bitF; rw [wrapK_eq, BitVec.toNat_or, toNat_ofInt, toNat_ofInt]; rfl
theorem bitF_xor (k : IntKind) (a b : Int) : bitF Nat.xor k a b = int k (k.wrap (BitVec.ofInt k.bits a ^^^ BitVec.ofInt k.bits b).toNat) := by
  unfold bitF; rw [wrapK_eq, BitVec.toNat_xor, toNat_ofInt, toNat_ofInt]; rfl

theorem minB_eq (k : IntKind) (n : Nat) : minB k n = min n k.bits := by
  unfold minB
  rw [bitsK_eq]
  cases h : Nat.ble n k.bits with
  | true => have := Nat.le_of_ble_eq_true h; show n = _; omega
  | false => have : ¬ n ≤ k.bits := fun hh => by rw [Nat.ble_eq_true_of_le hh] at h; cases h
             show k.bits = _; omega
theorem shrN_eq (a : Int) (n : Nat) : shrN a n = a.fdiv (2 ^ n) := by
  have e : (2 : Int) ^ n = Int.ofNat (2 ^ n) := by simp
  obtain ⟨p, hp⟩ : ∃ p, 2 ^ n = p + 1 := ⟨2 ^ n - 1, by have := Nat.two_pow_pos n; omega⟩
  rw [e, hp]
  cases a with
  | ofNat m =>
    show Int.ofNat (m / 2 ^ n) = _
    rw [hp]
    cases m with
    | zero => simp [Int.fdiv]
    | succ m => rfl
  | negSucc m => show Int.negSucc (m / 2 ^ n) = _; rw [hp]; rfl

theorem intArm {k : IntKind} {n : Int} {r : V} {x : Sem Value} (h : some (int k n) = some r) (hx : x = pure (.int k n)) : ∃ rv, x.run P w = .ok rv w ∧ VRel μ r rv := by
  cases h; subst hx; exact ⟨_, rfl, VRel.int k n⟩
theorem boolArm {b : Bool} {r : V} {x : Sem Value} (h : some (bool b) = some r) (hx : x = pure (.bool b)) : ∃ rv, x.run P w = .ok rv w ∧ VRel μ r rv := by
  cases h; subst hx; exact ⟨_, rfl, VRel.bool b⟩

theorem intOp_ok {op : BinOp} {t : TypeId} {k l : IntKind} {a b : Int} {r : V} (h : intOp op k a l b = some r) :
    ∃ rv, (binOp op t (.int k a) (.int l b)).run P w = .ok rv w ∧ VRel μ r rv := by
  have plain : isShift op = 0 → k = l ∧ intBin op k a b = some r := by
    intro e
    unfold intOp at h
    rw [e] at h
    obtain ⟨h1, h2⟩ := gd_some h
    exact ⟨eqK_true h1, h2⟩
  cases op
  case add => obtain ⟨rfl, g⟩ := plain rfl; exact intArm (n := wrapK k (Int.add a b)) g (by rw [wrapK_eq]; simp [binOp, Op.intArith])
  case sub => obtain ⟨rfl, g⟩ := plain rfl; exact intArm (n := wrapK k (Int.sub a b)) g (by rw [wrapK_eq]; simp [binOp, Op.intArith]; rfl)
  case mul => obtain ⟨rfl, g⟩ := plain rfl; exact intArm (n := wrapK k (Int.mul a b)) g (by rw [wrapK_eq]; simp [binOp, Op.intArith])
  case quo =>
    obtain ⟨rfl, g⟩ := plain rfl
    have h' : quoF k a b = some r := g
    unfold quoF at h'
    cases e : eqI b (.ofNat 0) with
    | true => rw [e] at h'; cases h'
    | false =>
      rw [e] at h'
      have hb : b ≠ 0 := by intro hb; subst hb; cases e
      exact intArm h' (by rw [wrapK_eq]; simp [binOp, Op.intDiv, hb])
  case rem =>
    obtain ⟨rfl, g⟩ := plain rfl
    have h' : remF k a b = some r := g
    unfold remF at h'
    cases e : eqI b (.ofNat 0) with
    | true => rw [e] at h'; cases h'
    | false =>
      rw [e] at h'
      have hb : b ≠ 0 := by intro hb; subst hb; cases e
      exact intArm h' (by simp [binOp, Op.intDiv, hb])
  case and =>
    obtain ⟨rfl, g⟩ := plain rfl
    have h' : some (bitF Nat.land k a b) = some r := g
    rw [bitF_land] at h'
    exact intArm h' (by simp [binOp, Op.intBits])
  case or =>
    obtain ⟨rfl, g⟩ := plain rfl
    have h' : some (bitF Nat.lor k a b) = some r := g
    rw [bitF_lor] at h'
    exact intArm h' (by simp [binOp, Op.intBits])
  case xor =>
    obtain ⟨rfl, g⟩ := plain rfl
    have h' : some (bitF Nat.xor k a b) = some r := g
    rw [bitF_xor] at h'
    exact intArm h' (by simp [binOp, Op.intBits])
  case andNot => obtain ⟨rfl, g⟩ := plain rfl; cases g
  case shl =>
    cases b with
    | negSucc n => cases h
    | ofNat n =>
      have h' : some (shlF k a n) = some r := h
      refine intArm (k := k) (n := k.wrap (a * 2 ^ (min n k.bits))) (by rw [← h']; unfold shlF; rw [wrapK_eq, minB_eq]; congr 3; try simp) ?_
      have hn : ¬ (Int.ofNat n < 0) := by simp
      simp only [binOp, Op.shift, hn, if_false]
      rfl
  case shr =>
    cases b with
    | negSucc n => cases h
    | ofNat n =>
      have h' : some (shrF k a n) = some r := h
      refine intArm (k := k) (n := a.fdiv (2 ^ (min n k.bits))) (by rw [← h']; unfold shrF; rw [shrN_eq, minB_eq]) ?_
      have hn : ¬ (Int.ofNat n < 0) := by simp
      simp only [binOp, Op.shift, hn, if_false]
      rfl
  case eql => obtain ⟨rfl, g⟩ := plain rfl; exact boolArm (b := eqI a b) g (by rw [eqI_eq]; simp [binOp, Op.intCmp])
  case neq => obtain ⟨rfl, g⟩ := plain rfl; exact boolArm (b := notb (eqI a b)) g (by rw [notb_eq, eqI_eq]; simp [binOp, Op.intCmp, bne])
  case lss => obtain ⟨rfl, g⟩ := plain rfl; exact boolArm (b := ltI a b) g (by rw [ltI_eq]; simp [binOp, Op.intCmp])
  case gtr => obtain ⟨rfl, g⟩ := plain rfl; exact boolArm (b := ltI b a) g (by rw [ltI_eq]; simp [binOp, Op.intCmp])
  case leq => obtain ⟨rfl, g⟩ := plain rfl; exact boolArm (b := notb (ltI b a)) g (by rw [notb_eq, ltI_eq]; simp [binOp, Op.intCmp]; congr 2; rw [Bool.eq_iff_iff]; simp; try omega)
  case geq => obtain ⟨rfl, g⟩ := plain rfl; exact boolArm (b := notb (ltI a b)) g (by rw [notb_eq, ltI_eq]; simp [binOp, Op.intCmp]; congr 2; rw [Bool.eq_iff_iff]; simp; try omega)

/-! ### texts -/

theorem ofNat_mod (n : Nat) : UInt8.ofNat (n % 256) = UInt8.ofNat n := by
  apply UInt8.toNat_inj.1; simp
theorem byte_eq (a b : Nat) : Nat.beq (byteN a) (byteN b) = (UInt8.ofNat a == UInt8.ofNat b) := by
  rw [Bool.eq_iff_iff, beq_iff_eq]
  show Nat.beq (a % 256) (b % 256) = true ↔ _
  rw [Nat.beq_eq]
  constructor
  · intro h; rw [← ofNat_mod a, ← ofNat_mod b, h]
  · intro h; have := congrArg UInt8.toNat h; simpa using this
theorem byte_lt (a b : Nat) : Nat.blt (byteN a) (byteN b) = decide (UInt8.ofNat a < UInt8.ofNat b) := by
  rw [Bool.eq_iff_iff, decide_eq_true_iff, UInt8.lt_iff_toNat_lt]
  show Nat.blt (a % 256) (b % 256) = true ↔ _
  rw [Nat.blt_eq]; simp
theorem strEq_eq (a b : List Nat) : strEq a b = (a.map UInt8.ofNat == b.map UInt8.ofNat) := by
  induction a generalizing b with
  | nil => cases b <;> rfl
  | cons x a ih => cases b with
    | nil => rfl
    | cons y b =>
      show (Bool.casesOn (Nat.beq (byteN x) (byteN y)) false (strEq a b) : Bool) = _
      rw [byte_eq, ih, List.map_cons, List.map_cons, List.cons_beq_cons]
      cases (UInt8.ofNat x == UInt8.ofNat y) <;> rfl
theorem strLess_eq (a b : List Nat) : strLess a b = Op.bytesLess (a.map UInt8.ofNat) (b.map UInt8.ofNat) := by
  induction a generalizing b with
  | nil => cases b <;> rfl
  | cons x a ih => cases b with
    | nil => rfl
    | cons y b =>
      show (Bool.casesOn (Nat.blt (byteN x) (byteN y)) (Bool.casesOn (Nat.beq (byteN x) (byteN y)) false (strLess a b)) true : Bool) = _
      rw [byte_eq, byte_lt, ih, List.map_cons, List.map_cons, Op.bytesLess]
      cases decide (UInt8.ofNat x < UInt8.ofNat y) <;> cases (UInt8.ofNat x == UInt8.ofNat y) <;> rfl

def bytesOf (s : List Nat) : ByteArray := ⟨(s.map UInt8.ofNat).toArray⟩
theorem strV_eq (s : List Nat) : strV s = .string (bytesOf s) := rfl
theorem bytesOf_toList (s : List Nat) : (bytesOf s).toList = s.map UInt8.ofNat := ByteArray.toList_mk _
theorem bytesOf_size (s : List Nat) : (bytesOf s).size = s.length := by simp [bytesOf, ByteArray.size]
theorem bytesOf_append (a b : List Nat) : bytesOf a ++ bytesOf b = bytesOf (a ++ b) := by
  apply ByteArray.ext
  simp [bytesOf]
theorem bytesOf_beq (a b : List Nat) : (bytesOf a == bytesOf b) = strEq a b := by
  rw [strEq_eq]
  show ((a.map UInt8.ofNat).toArray == (b.map UInt8.ofNat).toArray) = _
  simp

theorem strBin_ok {op : BinOp} {t : TypeId} {a b : List Nat} {r : V} (h : strBin op a b = some r) :
    ∃ rv, (binOp op t (strV a) (strV b)).run P w = .ok rv w ∧ VRel μ r rv := by
  have hs : ∀ op', (binOp op' t (strV a) (strV b)) = Op.stringOp op' (bytesOf a) (bytesOf b) := by intro op'; cases op' <;> simp [binOp, strV_eq]
  rw [hs]
  cases op <;> first
    | (exfalso; cases h; done)
    | skip
  case add =>
    obtain ⟨h1, h2⟩ := gd_some (x := some (one (.str (app a b)))) h
    cases h2
    refine ⟨.string (bytesOf a ++ bytesOf b), ?_, ?_⟩
    · have hl : ¬ ((((bytesOf a).size + (bytesOf b).size : Nat) : Int) > IntKind.i64.max) := by
        rw [Nat.blt_eq] at h1
        rw [lenl_eq, lenl_eq] at h1
        have h1' : a.length + b.length < 4611686018427387904 := h1
        rw [bytesOf_size, bytesOf_size, IntKind.max_i64]
        omega
      simp only [Op.stringOp, hl, if_false]
      rfl
    · rw [bytesOf_append, app_eq]; exact rfl
  case eql => exact boolArm h (by simp [Op.stringOp, bytesOf_toList, strEq_eq])
  case neq => exact boolArm h (by simp [Op.stringOp, bytesOf_toList, strEq_eq])
  case lss => exact boolArm h (by simp [Op.stringOp, bytesOf_toList, strLess_eq])
  case leq => exact boolArm h (by simp [Op.stringOp, bytesOf_toList, strLess_eq, strEq_eq])
  case gtr => exact boolArm h (by simp [Op.stringOp, bytesOf_toList, strLess_eq, strEq_eq])
  case geq => exact boolArm h (by simp [Op.stringOp, bytesOf_toList, strLess_eq])
end

end Go.Sx
