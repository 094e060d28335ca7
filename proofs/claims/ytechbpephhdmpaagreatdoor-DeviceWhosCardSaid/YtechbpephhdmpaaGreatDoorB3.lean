/-
  SOUNDNESS OF THE ABSTRACT INTERPRETER, third part: looking at values; types; operations that do not touch memory.
-/
import Derived.Test.YtechbpephhdmpaaGreatDoorB2
import Derived.Laws.Cells
import Derived.Laws.World
namespace Go.Sx

/-! ### looking at a value -/

section
variable {α : Type} {d r : α}
theorem vS_ne {v : V} {f : S → α} (h : vS v d f = r) (hr : r ≠ d) : ∃ s, v = one s ∧ f s = r := by
  cases v with
  | any => exact absurd h.symm hr
  | u x => cases x with
    | s x => exact ⟨x, rfl, h⟩
    | agg l => exact absurd h.symm hr
  | tup l => exact absurd h.symm hr
theorem vU_ne {v : V} {f : U → α} (h : vU v d f = r) (hr : r ≠ d) : ∃ u, v = .u u ∧ f u = r := by
  cases v with
  | any => exact absurd h.symm hr
  | u x => exact ⟨x, rfl, h⟩
  | tup l => exact absurd h.symm hr
theorem vAgg_ne {v : V} {f : List S → α} (h : vAgg v d f = r) (hr : r ≠ d) : ∃ l, v = agg l ∧ f l = r := by
  cases v with
  | any => exact absurd h.symm hr
  | u x => cases x with
    | s x => exact absurd h.symm hr
    | agg l => exact ⟨l, rfl, h⟩
  | tup l => exact absurd h.symm hr
theorem vTup_ne {v : V} {f : List U → α} (h : vTup v d f = r) (hr : r ≠ d) : ∃ l, v = .tup l ∧ f l = r := by
  cases v with
  | any => exact absurd h.symm hr
  | u x => exact absurd h.symm hr
  | tup l => exact ⟨l, rfl, h⟩
theorem vCells_ne {v : V} {f : List S → α} (h : vCells v d f = r) (hr : r ≠ d) : ∃ u, v = .u u ∧ f (uCells u) = r := by
  cases v with
  | any => exact absurd h.symm hr
  | u x => exact ⟨x, rfl, h⟩
  | tup l => exact absurd h.symm hr
theorem sBool_ne {s : S} {f : Bool → α} (h : sBool s d f = r) (hr : r ≠ d) : ∃ b, s = .bool b ∧ f b = r := by
  cases s <;> first | exact ⟨_, rfl, h⟩ | exact absurd h.symm hr
theorem sInt_ne {s : S} {f : IntKind → Int → α} (h : sInt s d f = r) (hr : r ≠ d) : ∃ k n, s = .int k n ∧ f k n = r := by
  cases s <;> first | exact ⟨_, _, rfl, h⟩ | exact absurd h.symm hr
theorem sStr_ne {s : S} {f : List Nat → α} (h : sStr s d f = r) (hr : r ≠ d) : ∃ b, s = .str b ∧ f b = r := by
  cases s <;> first | exact ⟨_, rfl, h⟩ | exact absurd h.symm hr
theorem sPtr_ne {s : S} {f : Nat → Nat → α} (h : sPtr s d d f = r) (hr : r ≠ d) : ∃ i o, s = .ptr i o ∧ f i o = r := by
  cases s <;> first | exact ⟨_, _, rfl, h⟩ | exact absurd h.symm hr
theorem sIfc_ne {s : S} {f : TypeId → Nat → α} (h : sIfc s d f = r) (hr : r ≠ d) : ∃ t i, s = .ifc t i ∧ f t i = r := by
  cases s <;> first | exact ⟨_, _, rfl, h⟩ | exact absurd h.symm hr
theorem sPtr_ne' {s : S} {n : α} {f : Nat → Nat → α} (h : sPtr s d n f = r) (hr : r ≠ d) : (s = .nilp ∧ n = r) ∨ ∃ i o, s = .ptr i o ∧ f i o = r := by
  cases s <;> first | exact .inr ⟨_, _, rfl, h⟩ | exact .inl ⟨rfl, h⟩ | exact absurd h.symm hr
theorem sSlc_ne {s : S} {n : α} {f : Nat → Nat → Nat → Cp → α} (h : sSlc s d n f = r) (hr : r ≠ d) : (s = .nils ∧ n = r) ∨ ∃ i o len c, s = .slc i o len c ∧ f i o len c = r := by
  cases s <;> first | exact .inr ⟨_, _, _, _, rfl, h⟩ | exact .inl ⟨rfl, h⟩ | exact absurd h.symm hr
theorem sMap_ne {s : S} {n : α} {f : Nat → α} (h : sMap s d n f = r) (hr : r ≠ d) : (s = .nilm ∧ n = r) ∨ ∃ i, s = .map i ∧ f i = r := by
  cases s <;> first | exact .inr ⟨_, rfl, h⟩ | exact .inl ⟨rfl, h⟩ | exact absurd h.symm hr
theorem sFn_ne {s : S} {f : FuncId → List Nat → List Nat → α} {y : Nat → α} (h : sFn s d f y = r) (hr : r ≠ d) :
    (∃ g a b, s = .fn g a b ∧ f g a b = r) ∨ ∃ l, s = .yld l ∧ y l = r := by
  cases s <;> first | exact .inl ⟨_, _, _, rfl, h⟩ | exact .inr ⟨_, rfl, h⟩ | exact absurd h.symm hr
theorem sNat_ne {s : S} {f : Nat → α} (h : sNat s d f = r) (hr : r ≠ d) : ∃ k n, s = .int k (.ofNat n) ∧ f n = r := by
  obtain ⟨k, n, rfl, h⟩ := sInt_ne h hr
  cases n with
  | ofNat n => exact ⟨k, n, rfl, h⟩
  | negSucc n => exact absurd h.symm hr
theorem vBool_ne {v : V} {f : Bool → α} (h : vBool v d f = r) (hr : r ≠ d) : ∃ b, v = one (.bool b) ∧ f b = r := by
  obtain ⟨s, rfl, h⟩ := vS_ne h hr
  obtain ⟨b, rfl, h⟩ := sBool_ne h hr
  exact ⟨b, rfl, h⟩
theorem vInt_ne {v : V} {f : IntKind → Int → α} (h : vInt v d f = r) (hr : r ≠ d) : ∃ k n, v = one (.int k n) ∧ f k n = r := by
  obtain ⟨s, rfl, h⟩ := vS_ne h hr
  obtain ⟨k, n, rfl, h⟩ := sInt_ne h hr
  exact ⟨k, n, rfl, h⟩
theorem vStr_ne {v : V} {f : List Nat → α} (h : vStr v d f = r) (hr : r ≠ d) : ∃ b, v = one (.str b) ∧ f b = r := by
  obtain ⟨s, rfl, h⟩ := vS_ne h hr
  obtain ⟨b, rfl, h⟩ := sStr_ne h hr
  exact ⟨b, rfl, h⟩
theorem vPtr_ne {v : V} {f : Nat → Nat → α} (h : vPtr v d f = r) (hr : r ≠ d) : ∃ i o, v = one (.ptr i o) ∧ f i o = r := by
  obtain ⟨s, rfl, h⟩ := vS_ne h hr
  obtain ⟨i, o, rfl, h⟩ := sPtr_ne h hr
  exact ⟨i, o, rfl, h⟩
theorem vNat_ne {v : V} {f : Nat → α} (h : vNat v d f = r) (hr : r ≠ d) : ∃ k n, v = one (.int k (.ofNat n)) ∧ f n = r := by
  obtain ⟨s, rfl, h⟩ := vS_ne h hr
  obtain ⟨k, n, rfl, h⟩ := sNat_ne h hr
  exact ⟨k, n, rfl, h⟩
theorem oRow_ne {o : O} {f : TypeId → List S → Bool → α} (h : oRow o d f = r) (hr : r ≠ d) : ∃ e cs fz, o = .row e cs fz ∧ f e cs fz = r := by
  cases o <;> first | exact ⟨_, _, _, rfl, h⟩ | exact absurd h.symm hr
theorem oMap_ne {o : O} {f : List E → Nat → α} (h : oMap o d f = r) (hr : r ≠ d) : ∃ es c, o = .map es c ∧ f es c = r := by
  cases o <;> first | exact ⟨_, _, rfl, h⟩ | exact absurd h.symm hr
theorem oLoop_ne {o : O} {f : Bool → Tr V → List Tmp → Code → Code → Nat → α} (h : oLoop o d f = r) (hr : r ≠ d) :
    ∃ busy T ps a b l, o = .loop busy T ps a b l ∧ f busy T ps a b l = r := by
  cases o <;> first | exact ⟨_, _, _, _, _, _, rfl, h⟩ | exact absurd h.symm hr
end

/-! ### numbers and texts of the program's own -/

theorem int_eq (k : IntKind) (n : Int) : int k n = one (.int k n) := by cases n <;> rfl
theorem bool_eq (b : Bool) : bool b = one (.bool b) := by cases b <;> rfl
theorem nat_eq (n : Nat) : nat n = one (.int .i64 (.ofNat n)) := rfl
theorem intS_eq (k : IntKind) (n : Int) : intS k n = some (.int k n) := by cases n <;> rfl

section
variable {μ : Mu}
theorem VRel.int (k : IntKind) (n : Int) : VRel μ (Sx.int k n) (.int k n) := by rw [int_eq]; exact rfl
theorem VRel.bool (b : Bool) : VRel μ (Sx.bool b) (.bool b) := by rw [bool_eq]; exact rfl
theorem VRel.undef : VRel μ undef' undef := ⟨#[], rfl, trivial⟩

theorem strV_bytes (s : ByteArray) : strV (s.data.toList.map UInt8.toNat) = .string s := by
  unfold strV
  congr 1
  cases s with
  | mk d =>
    congr 1
    apply Array.ext'
    have e : (UInt8.ofNat ∘ UInt8.toNat) = id := by funext x; simp
    simp [e]

theorem ofVal1_rel {v : Value} {x : S} (h : ofVal1 v = some x) : SRel μ x v := by
  unfold ofVal1 at h
  split at h <;> first
    | (rw [intS_eq] at h; cases h; exact rfl)
    | (cases h; exact rfl)
    | (cases h; rw [mapl_eq]; exact (strV_bytes _).symm)
    | cases h

theorem All2.of_mapo {f : Value → Option S} (hf : ∀ v x, f v = some x → SRel μ x v) {l : List Value} {r : List S} (h : mapo f l = some r) : All2 (SRel μ) r l := by
  induction l generalizing r with
  | nil => cases h; trivial
  | cons v l ih =>
    obtain ⟨y, h1, h2⟩ := ap_some (o := f v) (f := fun y => ap (mapo f l) fun ys => some (y :: ys)) h
    obtain ⟨ys, h3, h4⟩ := ap_some h2
    cases h4
    exact ⟨hf _ _ h1, ih h3⟩

theorem ofVal_rel (v : Value) : VRel μ (ofVal v) v := by
  unfold ofVal
  split
  · rename_i cs
    unfold oA
    cases h : mapo ofVal1 cs.toList with
    | none => trivial
    | some l => exact ⟨cs, rfl, All2.of_mapo (fun _ _ => ofVal1_rel) h⟩
  · unfold oV
    cases h : ofVal1 v with
    | none => trivial
    | some x => exact ofVal1_rel h
end

/-! ### types -/

section
variable {P : Program} {w : World} {t : TypeId}

theorem run_typeInfo' {i : TypeInfo} (h : P.info? t = some i) : (typeInfo t).run P w = .ok i w := by
  have h' : P.toTables.info? t = some i := h
  simp [typeInfo, h']
theorem run_underlying' {d : TypeDesc} (h : P.underlying t = some d) : (underlying t).run P w = .ok d w := by simp [underlying, h]
theorem sizeOf?_some {n : Nat} (h : sizeOf? P t = some n) : ∃ i, P.info? t = some i ∧ i.size = n := by
  obtain ⟨i, h1, h2⟩ := ap_some h
  cases h2
  exact ⟨i, h1, rfl⟩
theorem run_sizeOf' {n : Nat} (h : sizeOf? P t = some n) : (sizeOf t).run P w = .ok n w := by
  obtain ⟨i, h1, rfl⟩ := sizeOf?_some h
  simp [sizeOf, run_typeInfo' h1]
theorem bytesOf?_some {n : Nat} (h : bytesOf? P t = some n) : ∃ i, P.info? t = some i ∧ i.bytes = n := by
  obtain ⟨i, h1, h2⟩ := ap_some h
  cases h2
  exact ⟨i, h1, rfl⟩
theorem isAgg?_some {b : Bool} (h : isAgg? P t = some b) : ∃ d, P.underlying t = some d ∧ isAggD d = b := by
  obtain ⟨d, h1, h2⟩ := ap_some h
  cases h2
  exact ⟨d, h1, rfl⟩
theorem run_isAgg' {b : Bool} (h : isAgg? P t = some b) : (isAgg t).run P w = .ok b w := by
  obtain ⟨d, h1, rfl⟩ := isAgg?_some h
  cases d <;> simp [isAgg, run_underlying' h1, isAggD]
theorem zeroOf_some {zc : List S} (h : zeroOf P t = some zc) : ∃ i z, P.info? t = some i ∧ i.zero = some z ∧ ∀ μ, All2 (SRel μ) zc z.cells.toList := by
  obtain ⟨i, h1, h2⟩ := ap_some h
  obtain ⟨z, h3, h4⟩ := ap_some h2
  obtain ⟨u, h5, h6⟩ := vCells_ne h4 (by simp)
  cases h6
  refine ⟨i, z, h1, h3, fun μ => ?_⟩
  have := ofVal_rel (μ := μ) z
  rw [h5] at this
  exact URel.cells this
theorem run_zeroValue' {i : TypeInfo} {z : Value} (h : P.info? t = some i) (hz : i.zero = some z) : (zeroValue t).run P w = .ok z w := by
  simp [zeroValue, run_typeInfo' h, hz]
theorem sliceElem_some {e : TypeId} (h : sliceElem P t = some e) : P.underlying t = some (.slice e) := by
  unfold sliceElem at h
  split at h <;> first | (cases h; assumption) | cases h
theorem arrayOf_some {a : Nat × TypeId} (h : arrayOf P t = some a) : P.underlying t = some (.array a.1 a.2) := by
  unfold arrayOf at h
  split at h <;> first | (cases h; assumption) | cases h
theorem fieldsOf_some {fs : List Field} (h : fieldsOf P t = some fs) : ∃ a : Array Field, P.underlying t = some (.struct a) ∧ a.toList = fs := by
  unfold fieldsOf at h
  split at h
  · cases h; exact ⟨_, by assumption, rfl⟩
  · cases h
theorem mapOf_some {m : TypeId × TypeId} (h : mapOf P t = some m) : P.underlying t = some (.map m.1 m.2) := by
  unfold mapOf at h
  split at h <;> first | (cases h; assumption) | cases h
theorem isStr_true (h : isStr P t = true) : P.underlying t = some .string := by
  unfold isStr at h
  split at h <;> first | assumption | cases h
theorem isBoolT_true (h : isBoolT P t = true) : P.underlying t = some .bool := by
  unfold isBoolT at h
  split at h <;> first | assumption | cases h
theorem isUns_true (h : isUns P t = true) : P.underlying t = some .unsafePointer := by
  unfold isUns at h
  split at h <;> first | assumption | cases h
theorem isPtr_true (h : isPtr P t = true) : ∃ e, P.underlying t = some (.pointer e) := by
  unfold isPtr at h
  split at h
  · exact ⟨_, by assumption⟩
  · cases h
theorem isIntT_true (h : isIntT P t = true) : ∃ k, P.underlying t = some (.int k) := by
  unfold isIntT at h
  split at h
  · exact ⟨_, by assumption⟩
  · cases h
theorem intK_some {k : IntKind} (h : intK P t = some k) : P.underlying t = some (.int k) := by
  unfold intK at h
  split at h <;> first | (cases h; assumption) | cases h
theorem ptrTo_some {e : TypeId} (h : ptrTo P t = some e) : P.underlying t = some (.pointer e) := by
  unfold ptrTo at h
  split at h <;> first | (cases h; assumption) | cases h
theorem isU8_true (h : isU8 P t = true) : P.underlying t = some (.int .u8) := by
  unfold isU8 at h
  split at h <;> first | assumption | cases h
theorem known_true (h : known P t = true) : ∃ d, P.underlying t = some d := by
  unfold known at h
  cases e : P.underlying t with
  | none => rw [e] at h; cases h
  | some d => exact ⟨d, rfl⟩
theorem isIface_false (h : isIface P t = false) (ms : Array (String × TypeId)) : P.underlying t ≠ some (.interface ms) := by
  intro e
  simp [isIface, e] at h
end

/-! ### numbers -/

theorem eqI_eq (a b : Int) : eqI a b = (a == b) := by
  cases a with
  | ofNat m => cases b with
    | ofNat n => show Nat.beq m n = _; rw [Bool.eq_iff_iff]; simp [Int.ofNat_inj]
    | negSucc n => show false = _; rw [Bool.eq_iff_iff]; simp
  | negSucc m => cases b with
    | ofNat n => show false = _; rw [Bool.eq_iff_iff]; simp
    | negSucc n => show Nat.beq m n = _; rw [Bool.eq_iff_iff]; simp
theorem ltI_eq (a b : Int) : ltI a b = decide (a < b) := by
  cases a with
  | ofNat m => cases b with
    | ofNat n => show Nat.blt m n = _; rw [Bool.eq_iff_iff]; simp [Nat.blt_eq]
    | negSucc n => show false = _; rw [Bool.eq_iff_iff]; simp; omega
  | negSucc m => cases b with
    | ofNat n => show true = _; rw [Bool.eq_iff_iff]; simp; omega
    | negSucc n => show Nat.blt n m = _; rw [Bool.eq_iff_iff]; simp [Nat.blt_eq]; omega
theorem eqK_true {a b : IntKind} (h : eqK a b = true) : a = b := by cases a <;> cases b <;> first | rfl | cases h
theorem eqK_eq (a b : IntKind) : eqK a b = decide (a = b) := by cases a <;> cases b <;> rfl

theorem modU_eq (m : Nat) (hm : 0 < m) (n : Int) : ((modU m n : Nat) : Int) = n % (m : Int) := by
  cases n with
  | ofNat k => show ((k % m : Nat) : Int) = _; simp
  | negSucc k =>
    show (((m - 1) - k % m : Nat) : Int) = _
    have h1 : k % m < m := Nat.mod_lt _ hm
    have h0 : (0 : Int) < m := by omega
    rw [Int.negSucc_emod k h0]
    have h2 : ((k : Int) % m) = ((k % m : Nat) : Int) := by simp
    rw [h2]
    omega
theorem toS_eq (h m x : Nat) (hm : x < m) : toS h m x = if x < h then (x : Int) else (x : Int) - m := by
  unfold toS
  cases e : Nat.blt x h with
  | true => rw [Nat.blt_eq] at e; rw [if_pos e]; rfl
  | false =>
    have : ¬ x < h := by intro hh; rw [← Nat.blt_eq] at hh; rw [hh] at e; cases e
    rw [if_neg this]
    show Int.negSucc (m - 1 - x) = _
    omega
theorem wrapK_eq (k : IntKind) (n : Int) : wrapK k n = k.wrap n := by
  have key : ∀ (h m : Nat) (hm : 0 < m), toS h m (modU m n) = if (n % (m : Int)) < h then n % (m : Int) else n % (m : Int) - m := by
    intro h m hm
    have e := modU_eq m hm n
    have l : n % (m : Int) < m := Int.emod_lt_of_pos _ (by omega)
    rw [toS_eq _ _ _ (by omega), ← e]
    by_cases hh : modU m n < h
    · rw [if_pos hh, if_pos (by omega)]
    · rw [if_neg hh, if_neg (by omega)]
  cases k
  case i8 => show toS 128 256 (modU 256 n) = _; rw [key 128 256 (by decide)]; simp only [IntKind.wrap, IntKind.signed, IntKind.bits, Bool.true_and, decide_eq_true_eq, Nat.reduceSub, Int.reducePow, ge_iff_le]; split <;> split <;> first | rfl | omega
  case i16 => show toS 32768 65536 (modU 65536 n) = _; rw [key 32768 65536 (by decide)]; simp only [IntKind.wrap, IntKind.signed, IntKind.bits, Bool.true_and, decide_eq_true_eq, Nat.reduceSub, Int.reducePow, ge_iff_le]; split <;> split <;> first | rfl | omega
  case i32 => show toS 2147483648 4294967296 (modU 4294967296 n) = _; rw [key 2147483648 4294967296 (by decide)]; simp only [IntKind.wrap, IntKind.signed, IntKind.bits, Bool.true_and, decide_eq_true_eq, Nat.reduceSub, Int.reducePow, ge_iff_le]; split <;> split <;> first | rfl | omega
  case i64 => show toS 9223372036854775808 18446744073709551616 (modU 18446744073709551616 n) = _; rw [key 9223372036854775808 18446744073709551616 (by decide)]; simp only [IntKind.wrap, IntKind.signed, IntKind.bits, Bool.true_and, decide_eq_true_eq, Nat.reduceSub, Int.reducePow, ge_iff_le]; split <;> split <;> first | rfl | omega
  case u8 => exact modU_eq 256 (by decide) n
  case u16 => exact modU_eq 65536 (by decide) n
  case u32 => exact modU_eq 4294967296 (by decide) n
  case u64 => exact modU_eq 18446744073709551616 (by decide) n

end Go.Sx
