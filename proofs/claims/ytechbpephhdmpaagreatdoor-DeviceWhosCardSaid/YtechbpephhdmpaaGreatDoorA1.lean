/-
  AN ABSTRACT INTERPRETER OF THE MODEL'S CODE, written for the kernel (recursors and case splits by name, small bodies): values, memory, operations.
-/
import GoSem.Step
namespace Go.Sx

/-- how far a slice's capacity reaches: just so many elements; or to its row's end (not known), an element having so many cells -/
inductive Cp where
  | ex (c : Nat)
  | op (s : Nat)

/-- one cell -/
inductive S where
  | bool (b : Bool)
  | int (k : IntKind) (n : Int)
  | str (s : List Nat)
  | nilp
  | ptr (i o : Nat)
  | nils
  | slc (i o len : Nat) (c : Cp)
  | nilm
  | map (i : Nat)
  | nilf
  | fn (f : FuncId) (fst cap : List Nat)
  | yld (l : Nat)
  | nili
  | ifc (t : TypeId) (m : Nat)

/-- one cell, or a struct's or an array's cells -/
inductive U where
  | s (x : S)
  | agg (l : List S)

inductive V where
  | any
  | u (x : U)
  | tup (l : List U)

/-- a digit -/
inductive Q where
  | a | b | c | d

/-- a tree of four arms -/
inductive Tr (α : Type) where
  | leaf (v : α)
  | node (a b c d : Tr α)

noncomputable section

/-! ### small words -/

def forceN {α : Type} (n : Nat) (d : α) (f : Nat → α) : α := Nat.casesOn (Nat.add n 1) d f

def dig (n : Nat) : Q := Nat.casesOn n .a (fun n => Nat.casesOn n .b (fun n => Nat.casesOn n .c (fun _ => .d)))
def pathOf (d : Nat) : Nat → List Q := Nat.rec (fun _ => []) (fun _ ih n => dig (Nat.mod n 4) :: ih (Nat.div n 4)) d

def Tr.get {α : Type} (t : Tr α) (z : α) : List Q → α :=
  Tr.rec (motive := fun _ => List Q → α) (fun v _ => v) (fun _ _ _ _ ga gb gc gd p => List.rec (motive := fun _ => α) z (fun q qs _ => Q.rec (motive := fun _ => α) (ga qs) (gb qs) (gc qs) (gd qs) q) p) t

def Tr.set {α : Type} (t : Tr α) (x : α) : List Q → Tr α :=
  Tr.rec (motive := fun _ => List Q → Tr α) (fun _ _ => .leaf x) (fun a b c d sa sb sc sd p => List.rec (motive := fun _ => Tr α) (.node a b c d) (fun q qs _ => Q.rec (motive := fun _ => Tr α) (.node (sa qs) b c d) (.node a (sb qs) c d) (.node a b (sc qs) d) (.node a b c (sd qs)) q) p) t

def Tr.full {α : Type} (v : α) (d : Nat) : Tr α := Nat.rec (.leaf v) (fun _ t => .node t t t t) d

def app {α : Type} (a b : List α) : List α := List.rec b (fun x _ r => x :: r) a
def mapl {α β : Type} (f : α → β) (a : List α) : List β := List.rec [] (fun x _ r => f x :: r) a
def lenl {α : Type} (a : List α) : Nat := List.rec 0 (fun _ _ r => Nat.succ r) a
def anyl {α : Type} (f : α → Bool) (a : List α) : Bool := List.rec false (fun x _ r => Bool.casesOn (f x) r true) a
def alll {α : Type} (f : α → Bool) (a : List α) : Bool := List.rec true (fun x _ r => Bool.casesOn (f x) false r) a
def dropl {α : Type} (a : List α) : Nat → List α := List.rec (fun _ => []) (fun x xs r n => Nat.casesOn n (x :: xs) r) a
def nth? {α : Type} (a : List α) : Nat → Option α := List.rec (fun _ => none) (fun x _ r n => Nat.casesOn n (some x) r) a
def ap {α β : Type} (o : Option α) (f : α → Option β) : Option β := Option.casesOn o none f
def gd {α : Type} (b : Bool) (x : Option α) : Option α := Bool.casesOn b none x
/-- the first n, if there are so many -/
def take? {α : Type} (n : Nat) : List α → Option (List α) :=
  Nat.rec (fun _ => some []) (fun _ r l => List.casesOn l none (fun x xs => ap (r xs) fun ys => some (x :: ys))) n
/-- the first n, or all -/
def takel {α : Type} (n : Nat) : List α → List α :=
  Nat.rec (fun _ => []) (fun _ r l => List.casesOn l [] (fun x xs => x :: r xs)) n
def sub? {α : Type} (a : List α) (o n : Nat) : Option (List α) := take? n (dropl a o)
def mapo {α β : Type} (f : α → Option β) (a : List α) : Option (List β) :=
  List.rec (some []) (fun x _ r => ap (f x) fun y => ap r fun ys => some (y :: ys)) a
def andb (a b : Bool) : Bool := Bool.casesOn a false b
def orb (a b : Bool) : Bool := Bool.casesOn a b true
def notb (a : Bool) : Bool := Bool.casesOn a true false
def eqB (a b : Bool) : Bool := Bool.casesOn a (notb b) b
def getO (o : Option Nat) (d : Nat) : Nat := Option.casesOn o d (fun n => n)

/-! ### looking at a value -/

def sBool {α : Type} (v : S) (d : α) (f : Bool → α) : α := S.casesOn v f (fun _ _ => d) (fun _ => d) d (fun _ _ => d) d (fun _ _ _ _ => d) d (fun _ => d) d (fun _ _ _ => d) (fun _ => d) d (fun _ _ => d)
def sInt {α : Type} (v : S) (d : α) (f : IntKind → Int → α) : α := S.casesOn v (fun _ => d) f (fun _ => d) d (fun _ _ => d) d (fun _ _ _ _ => d) d (fun _ => d) d (fun _ _ _ => d) (fun _ => d) d (fun _ _ => d)
def sStr {α : Type} (v : S) (d : α) (f : List Nat → α) : α := S.casesOn v (fun _ => d) (fun _ _ => d) f d (fun _ _ => d) d (fun _ _ _ _ => d) d (fun _ => d) d (fun _ _ _ => d) (fun _ => d) d (fun _ _ => d)
def sPtr {α : Type} (v : S) (d n : α) (f : Nat → Nat → α) : α := S.casesOn v (fun _ => d) (fun _ _ => d) (fun _ => d) n f d (fun _ _ _ _ => d) d (fun _ => d) d (fun _ _ _ => d) (fun _ => d) d (fun _ _ => d)
def sSlc {α : Type} (v : S) (d n : α) (f : Nat → Nat → Nat → Cp → α) : α := S.casesOn v (fun _ => d) (fun _ _ => d) (fun _ => d) d (fun _ _ => d) n f d (fun _ => d) d (fun _ _ _ => d) (fun _ => d) d (fun _ _ => d)
def sMap {α : Type} (v : S) (d n : α) (f : Nat → α) : α := S.casesOn v (fun _ => d) (fun _ _ => d) (fun _ => d) d (fun _ _ => d) d (fun _ _ _ _ => d) n f d (fun _ _ _ => d) (fun _ => d) d (fun _ _ => d)
def sFn {α : Type} (v : S) (d : α) (f : FuncId → List Nat → List Nat → α) (y : Nat → α) : α := S.casesOn v (fun _ => d) (fun _ _ => d) (fun _ => d) d (fun _ _ => d) d (fun _ _ _ _ => d) d (fun _ => d) d f y d (fun _ _ => d)
def sIfc {α : Type} (v : S) (d : α) (f : TypeId → Nat → α) : α := S.casesOn v (fun _ => d) (fun _ _ => d) (fun _ => d) d (fun _ _ => d) d (fun _ _ _ _ => d) d (fun _ => d) d (fun _ _ _ => d) (fun _ => d) d f
/-- which make a cell is of -/
def sNo (v : S) : Nat := S.casesOn v (fun _ => 0) (fun _ _ => 1) (fun _ => 2) 3 (fun _ _ => 4) 5 (fun _ _ _ _ => 6) 7 (fun _ => 8) 9 (fun _ _ _ => 10) (fun _ => 11) 12 (fun _ _ => 13)

def vU {α : Type} (v : V) (d : α) (f : U → α) : α := V.casesOn v d f (fun _ => d)
def vS {α : Type} (v : V) (d : α) (f : S → α) : α := V.casesOn v d (fun u => U.casesOn u f (fun _ => d)) (fun _ => d)
def vAgg {α : Type} (v : V) (d : α) (f : List S → α) : α := V.casesOn v d (fun u => U.casesOn u (fun _ => d) f) (fun _ => d)
def vTup {α : Type} (v : V) (d : α) (f : List U → α) : α := V.casesOn v d (fun _ => d) f
def uCells (u : U) : List S := U.casesOn u (fun x => [x]) (fun l => l)
/-- a value's cells -/
def vCells {α : Type} (v : V) (d : α) (f : List S → α) : α := V.casesOn v d (fun u => f (uCells u)) (fun _ => d)
def vBool {α : Type} (v : V) (d : α) (f : Bool → α) : α := vS v d fun s => sBool s d f
def vInt {α : Type} (v : V) (d : α) (f : IntKind → Int → α) : α := vS v d fun s => sInt s d f
def vStr {α : Type} (v : V) (d : α) (f : List Nat → α) : α := vS v d fun s => sStr s d f
def vPtr {α : Type} (v : V) (d : α) (f : Nat → Nat → α) : α := vS v d fun s => sPtr s d d f
def sNat {α : Type} (v : S) (d : α) (f : Nat → α) : α := sInt v d fun _ n => Int.casesOn n f (fun _ => d)
def vNat {α : Type} (v : V) (d : α) (f : Nat → α) : α := vS v d fun s => sNat s d f

def one (x : S) : V := .u (.s x)
def agg (l : List S) : V := .u (.agg l)
def int (k : IntKind) (n : Int) : V := Int.casesOn n (fun m => forceN m .any fun m => one (.int k (.ofNat m))) (fun m => forceN m .any fun m => one (.int k (.negSucc m)))
def bool (b : Bool) : V := Bool.casesOn b (one (.bool false)) (one (.bool true))
def nat (n : Nat) : V := forceN n .any fun n => one (.int .i64 (.ofNat n))
def undef' : V := .tup []

/-! ### numbers -/

def ltI (a b : Int) : Bool := Int.casesOn a (fun m => Int.casesOn b (fun n => Nat.blt m n) (fun _ => false)) (fun m => Int.casesOn b (fun _ => true) (fun n => Nat.blt n m))
def eqI (a b : Int) : Bool := Int.casesOn a (fun m => Int.casesOn b (fun n => Nat.beq m n) (fun _ => false)) (fun m => Int.casesOn b (fun _ => false) (fun n => Nat.beq m n))

def modU (m : Nat) (n : Int) : Nat := Int.casesOn n (fun k => Nat.mod k m) (fun k => Nat.sub (Nat.sub m 1) (Nat.mod k m))
def toS (h m x : Nat) : Int := Bool.casesOn (Nat.blt x h) (.negSucc (Nat.sub (Nat.sub m 1) x)) (.ofNat x)

def wrapK (k : IntKind) (n : Int) : Int :=
  IntKind.casesOn k (toS 128 256 (modU 256 n)) (toS 32768 65536 (modU 65536 n)) (toS 2147483648 4294967296 (modU 4294967296 n)) (toS 9223372036854775808 18446744073709551616 (modU 18446744073709551616 n))
    (.ofNat (modU 256 n)) (.ofNat (modU 65536 n)) (.ofNat (modU 4294967296 n)) (.ofNat (modU 18446744073709551616 n))

def modK (k : IntKind) : Nat := IntKind.casesOn k 256 65536 4294967296 18446744073709551616 256 65536 4294967296 18446744073709551616
def bitsK (k : IntKind) : Nat := IntKind.casesOn k 8 16 32 64 8 16 32 64
def kindNo (k : IntKind) : Nat := IntKind.casesOn k 0 1 2 3 4 5 6 7
def eqK (a b : IntKind) : Bool := Nat.beq (kindNo a) (kindNo b)

def bitF (f : Nat → Nat → Nat) (k : IntKind) (a b : Int) : V := int k (wrapK k (.ofNat (f (modU (modK k) a) (modU (modK k) b))))
def minB (k : IntKind) (n : Nat) : Nat := Bool.casesOn (Nat.ble n (bitsK k)) (bitsK k) n
def shlF (k : IntKind) (a : Int) (n : Nat) : V := int k (wrapK k (Int.mul a (.ofNat (Nat.pow 2 (minB k n)))))
def shrN (a : Int) (n : Nat) : Int := Int.casesOn a (fun m => .ofNat (Nat.div m (Nat.pow 2 n))) (fun m => .negSucc (Nat.div m (Nat.pow 2 n)))
def shrF (k : IntKind) (a : Int) (n : Nat) : V := int k (shrN a (minB k n))
def quoF (k : IntKind) (a b : Int) : Option V := Bool.casesOn (eqI b (.ofNat 0)) (some (int k (wrapK k (Int.tdiv a b)))) none
def remF (k : IntKind) (a b : Int) : Option V := Bool.casesOn (eqI b (.ofNat 0)) (some (int k (Int.tmod a b))) none

def addF (k : IntKind) (a b : Int) : Option V := some (int k (wrapK k (Int.add a b)))
def subF (k : IntKind) (a b : Int) : Option V := some (int k (wrapK k (Int.sub a b)))
def mulF (k : IntKind) (a b : Int) : Option V := some (int k (wrapK k (Int.mul a b)))
def andF (k : IntKind) (a b : Int) : Option V := some (bitF Nat.land k a b)
def orF (k : IntKind) (a b : Int) : Option V := some (bitF Nat.lor k a b)
def xorF (k : IntKind) (a b : Int) : Option V := some (bitF Nat.xor k a b)
def eqlF (a b : Int) : Option V := some (bool (eqI a b))
def neqF (a b : Int) : Option V := some (bool (notb (eqI a b)))
def lssF (a b : Int) : Option V := some (bool (ltI a b))
def geqF (a b : Int) : Option V := some (bool (notb (ltI a b)))
def intBin (op : BinOp) (k : IntKind) (a b : Int) : Option V :=
  BinOp.casesOn op (addF k a b) (subF k a b) (mulF k a b) (quoF k a b) (remF k a b) (andF k a b) (orF k a b) (xorF k a b) none none none (eqlF a b) (neqF a b) (lssF a b) (geqF b a) (lssF b a) (geqF a b)

/-- 0: no shift; 1: to the left; 2: to the right -/
def isShift (op : BinOp) : Nat := BinOp.casesOn op 0 0 0 0 0 0 0 0 1 2 0 0 0 0 0 0 0
def shift (s : Nat) (k : IntKind) (a b : Int) : Option V := Int.casesOn b (fun n => Nat.casesOn s (some (shlF k a n)) (fun _ => some (shrF k a n))) (fun _ => none)
def intOp (op : BinOp) (k : IntKind) (a : Int) (yk : IntKind) (b : Int) : Option V :=
  Nat.casesOn (isShift op) (gd (eqK k yk) (intBin op k a b)) (fun s => shift s k a b)

/-! ### strings -/

def byteN (n : Nat) : Nat := Nat.mod n 256
def strEq (a : List Nat) : List Nat → Bool :=
  List.rec (fun b => List.casesOn b true (fun _ _ => false))
    (fun x _ r b => List.casesOn b false (fun y ys => Bool.casesOn (Nat.beq (byteN x) (byteN y)) false (r ys))) a
def strLess (a : List Nat) : List Nat → Bool :=
  List.rec (fun b => List.casesOn b false (fun _ _ => true))
    (fun x _ r b => List.casesOn b false (fun y ys => Bool.casesOn (Nat.blt (byteN x) (byteN y)) (Bool.casesOn (Nat.beq (byteN x) (byteN y)) false (r ys)) true)) a

def strBin (op : BinOp) (a b : List Nat) : Option V :=
  BinOp.casesOn op (gd (Nat.blt (Nat.add (lenl a) (lenl b)) 4611686018427387904) (some (one (.str (app a b))))) none none none none none none none none none none
    (some (bool (strEq a b))) (some (bool (notb (strEq a b)))) (some (bool (strLess a b))) (some (bool (orb (strLess a b) (strEq a b))))
    (some (bool (notb (orb (strLess a b) (strEq a b))))) (some (bool (notb (strLess a b))))

def byteS (b : Nat) : S := forceN (byteN b) .nilp fun n => .int .u8 (.ofNat n)
def bytesS (s : List Nat) : List S := mapl byteS s

/-! ### values of the text -/

def intS (k : IntKind) (n : Int) : Option S := Int.casesOn n (fun m => forceN m none fun m => some (.int k (.ofNat m))) (fun m => forceN m none fun m => some (.int k (.negSucc m)))
def ofVal1 : Value → Option S
  | .bool b => some (.bool b)
  | .int k n => intS k n
  | .string s => some (.str (mapl UInt8.toNat s.data.toList))
  | .pointer none => some .nilp
  | .slice none 0 0 => some .nils
  | .map none => some .nilm
  | .nilFunc => some .nilf
  | .nilIface => some .nili
  | _ => none
def oV (o : Option S) : V := Option.casesOn o .any one
def oA (o : Option (List S)) : V := Option.casesOn o .any agg
def ofVal : Value → V
  | .agg cs => oA (mapo ofVal1 cs.toList)
  | v => oV (ofVal1 v)

/-! ### are two values one? -/

def eqL {α : Type} (f : α → α → Bool) (a : List α) : List α → Bool :=
  List.rec (fun b => List.casesOn b true (fun _ _ => false)) (fun x _ r b => List.casesOn b false (fun y ys => Bool.casesOn (f x y) false (r ys))) a
def eqCp (a b : Cp) : Bool := Cp.casesOn a (fun c => Cp.casesOn b (fun e => Nat.beq c e) (fun _ => false)) (fun c => Cp.casesOn b (fun _ => false) (fun e => Nat.beq c e))
/-- are two cells one? -/
def sameS (x y : S) : Bool :=
  Bool.casesOn (Nat.beq (sNo x) (sNo y)) false
    (S.casesOn x (fun a => sBool y false fun b => eqB a b) (fun k a => sInt y false fun l b => andb (eqK k l) (eqI a b)) (fun a => sStr y false fun b => eqL Nat.beq a b) true
      (fun i o => sPtr y false false fun j p => andb (Nat.beq i j) (Nat.beq o p)) true
      (fun i o n c => sSlc y false false fun j p m e => andb (Nat.beq i j) (andb (Nat.beq o p) (andb (Nat.beq n m) (eqCp c e)))) true
      (fun i => sMap y false false fun j => Nat.beq i j) true
      (fun f a b => sFn y false (fun g c d => andb (Nat.beq f g) (andb (eqL Nat.beq a c) (eqL Nat.beq b d))) (fun _ => false)) (fun i => sFn y false (fun _ _ _ => false) fun j => Nat.beq i j) true
      (fun t a => sIfc y false fun u b => andb (Nat.beq t u) (Nat.beq a b)))
def sameU (x y : U) : Bool := U.casesOn x (fun a => U.casesOn y (fun b => sameS a b) (fun _ => false)) (fun a => U.casesOn y (fun _ => false) (fun b => eqL sameS a b))
def sameV (x y : V) : Bool := V.casesOn x false (fun a => vU y false fun b => sameU a b) (fun a => vTup y false fun b => eqL sameU a b)

/-! ### types -/

section
variable (P : Program)

def zeroOf (t : TypeId) : Option (List S) := ap (P.info? t) fun i => ap i.zero fun z => vCells (ofVal z) none some
def sizeOf? (t : TypeId) : Option Nat := ap (P.info? t) fun i => some i.size
def bytesOf? (t : TypeId) : Option Nat := ap (P.info? t) fun i => some i.bytes
def isAggD : TypeDesc → Bool
  | .struct _ => true
  | .array _ _ => true
  | _ => false
def isAgg? (t : TypeId) : Option Bool := ap (P.underlying t) fun d => some (isAggD d)
def sliceElem (t : TypeId) : Option TypeId := match P.underlying t with | some (.slice e) => some e | _ => none
def arrayOf (t : TypeId) : Option (Nat × TypeId) := match P.underlying t with | some (.array n e) => some (n, e) | _ => none
def fieldsOf (t : TypeId) : Option (List Field) := match P.underlying t with | some (.struct fs) => some fs.toList | _ => none
def mapOf (t : TypeId) : Option (TypeId × TypeId) := match P.underlying t with | some (.map k e) => some (k, e) | _ => none
def isStr (t : TypeId) : Bool := match P.underlying t with | some .string => true | _ => false
def isPtr (t : TypeId) : Bool := match P.underlying t with | some (.pointer _) => true | _ => false
def isUns (t : TypeId) : Bool := match P.underlying t with | some .unsafePointer => true | _ => false
def isIface (t : TypeId) : Bool := match P.underlying t with | some (.interface _) => true | _ => false
def isIntT (t : TypeId) : Bool := match P.underlying t with | some (.int _) => true | _ => false
def isBoolT (t : TypeId) : Bool := match P.underlying t with | some .bool => true | _ => false
def intK (t : TypeId) : Option IntKind := match P.underlying t with | some (.int k) => some k | _ => none
def ptrTo (t : TypeId) : Option TypeId := match P.underlying t with | some (.pointer e) => some e | _ => none
def isU8 (t : TypeId) : Bool := match P.underlying t with | some (.int .u8) => true | _ => false
def known (t : TypeId) : Bool := (P.underlying t).isSome

def partV (agg_ : Bool) (n : Nat) (cs : List S) (o : Nat) : Option V :=
  Bool.casesOn agg_ (ap (nth? cs o) fun x => some (one x)) (ap (sub? cs o n) fun c => some (agg c))
def part? (t : TypeId) (cs : List S) (o : Nat) : Option V := ap (isAgg? P t) fun a => ap (sizeOf? P t) fun n => partV a n cs o

def partU (t : TypeId) (cs : List S) (o : Nat) : Option U :=
  ap (isAgg? P t) fun a => ap (sizeOf? P t) fun n => Bool.casesOn a (ap (nth? cs o) fun x => some (.s x)) (ap (sub? cs o n) fun c => some (.agg c))

def eqPtr (t : TypeId) (i o : Nat) (y : S) : Option Bool :=
  sPtr y none (gd (isPtr P t) (some false)) fun j p => ap (ptrTo P t) fun e => ap (sizeOf? P e) fun n => Nat.casesOn n none (fun _ => gd (Nat.beq i j) (some (Nat.beq o p)))

/-- are two cells the same? -/
def eqS (t : TypeId) (x y : S) : Option Bool :=
  S.casesOn x (fun a => gd (isBoolT P t) (sBool y none fun b => some (eqB a b)))
    (fun k a => gd (isIntT P t) (sInt y none fun l b => gd (eqK k l) (some (eqI a b))))
    (fun a => gd (isStr P t) (sStr y none fun b => some (strEq a b)))
    (sPtr y none (gd (isPtr P t) (some true)) fun _ _ => gd (isPtr P t) (some false))
    (fun i o => eqPtr P t i o y)
    (sSlc y none (gd (sliceElem P t).isSome (some true)) fun _ _ _ _ => gd (sliceElem P t).isSome (some false))
    (fun _ _ _ _ => sSlc y none (gd (sliceElem P t).isSome (some false)) fun _ _ _ _ => none)
    (sMap y none (gd (mapOf P t).isSome (some true)) fun _ => gd (mapOf P t).isSome (some false))
    (fun _ => sMap y none (gd (mapOf P t).isSome (some false)) fun _ => none)
    none (fun _ _ _ => none) (fun _ => none) none (fun _ _ => none)
def eqFs (r : TypeId → U → U → Option Bool) (xs ys : List S) (fs : List Field) : Option Bool :=
  List.rec (some true) (fun f _ k => Bool.casesOn (decide (f.name = "_"))
    (ap (partU P f.type xs f.offset) fun x => ap (partU P f.type ys f.offset) fun y => ap (r f.type x y) fun b => Bool.casesOn b (some false) k) none) fs
def eqAgg (r : TypeId → U → U → Option Bool) (t : TypeId) (xs ys : List S) : Option Bool :=
  Bool.casesOn (P.stoodInHeld t) (ap (fieldsOf P t) fun fs => eqFs P r xs ys fs) none
/-- are two values the same (Go's ==)? -/
def eqT (d : Nat) : TypeId → U → U → Option Bool :=
  Nat.rec (fun _ _ _ => none) (fun _ r t x y => U.casesOn x (fun x => U.casesOn y (fun y => eqS P t x y) (fun _ => none)) (fun xs => U.casesOn y (fun _ => none) (fun ys => eqAgg P r t xs ys))) d
def eqU (t : TypeId) (x y : U) : Option Bool := eqT P 8 t x y

/-- 1: ==; 2: != -/
def eqlNo (op : BinOp) : Nat := BinOp.casesOn op 0 0 0 0 0 0 0 0 0 0 0 1 2 0 0 0 0
def binO (op : BinOp) (t : TypeId) (x y : U) : Option V :=
  Nat.casesOn (eqlNo op) none (fun n => ap (eqU P t x y) fun b => some (bool (Nat.casesOn n b (fun _ => notb b))))
def binS (op : BinOp) (t : TypeId) (x y : S) : Option V :=
  sInt x (sStr x (binO P op t (.s x) (.s y)) fun a => sStr y none fun b => strBin op a b) fun k a => sInt y none fun l b => intOp op k a l b
def binU (op : BinOp) (t : TypeId) (x y : U) : Option V := U.casesOn x (fun a => U.casesOn y (fun b => binS P op t a b) (fun _ => none)) (fun _ => gd (notb (P.eqGuardType P.depth t)) (binO P op t x y))
def binV (op : BinOp) (t : TypeId) (x y : V) : Option V := vU x none fun x => vU y none fun y => binU P op t x y

def unV (op : UnOp) (x : V) : Option V :=
  UnOp.casesOn op (vInt x none fun k n => intBin .sub k (.ofNat 0) n) (vInt x none fun k n => intBin .xor k (Int.negSucc 0) n) (vBool x none fun b => some (bool (notb b))) none

/-! ### memory -/

structure E where
  k : U
  v : U
  born : Nat

inductive O where
  | gone
  | row (e : TypeId) (cs : List S) (fz : Bool)
  | map (es : List E) (clock : Nat)
  | miter (m : Nat) (since : Nat) (seen : List Nat) (stepped : Nat)
  | siter (s : List Nat) (pos : Nat)
  | loop (busy : Bool) (T : Tr V) (params : List Tmp) (assign body : Code) (defers : Nat)
  | dfr

structure H where
  t : Tr O
  n : Nat

def hdepth : Nat := 6
def hpath (i : Nat) : List Q := pathOf hdepth i
def H.get (h : H) (i : Nat) : O := h.t.get .gone (hpath i)
def H.set (h : H) (i : Nat) (o : O) : H := ⟨h.t.set o (hpath i), h.n⟩
def most : Nat := 4096
def H.new {α : Type} (h : H) (o : O) (d : α) (f : Nat → H → α) : α := forceN h.n d fun n => Bool.casesOn (Nat.blt n most) d (f n ⟨h.t.set o (hpath n), Nat.succ n⟩)

def oRow {α : Type} (o : O) (d : α) (f : TypeId → List S → Bool → α) : α :=
  O.casesOn o d f (fun _ _ => d) (fun _ _ _ _ => d) (fun _ _ => d) (fun _ _ _ _ _ _ => d) d
def oMap {α : Type} (o : O) (d : α) (f : List E → Nat → α) : α :=
  O.casesOn o d (fun _ _ _ => d) f (fun _ _ _ _ => d) (fun _ _ => d) (fun _ _ _ _ _ _ => d) d
def oLoop {α : Type} (o : O) (d : α) (f : Bool → Tr V → List Tmp → Code → Code → Nat → α) : α :=
  O.casesOn o d (fun _ _ _ => d) (fun _ _ => d) (fun _ _ _ _ => d) (fun _ _ => d) f d
def hRow {α : Type} (h : H) (i : Nat) (d : α) (f : TypeId → List S → Bool → α) : α := oRow (h.get i) d f

def loadC (agg_ : Bool) (n : Nat) (a : V) (h : H) : Option V :=
  vPtr a none fun i o => hRow h i none fun _ cs _ => partV agg_ n cs o
def loadV (t : TypeId) (a : V) (h : H) : Option V := ap (isAgg? P t) fun g => ap (sizeOf? P t) fun n => loadC g n a h

/-- cells over others, from the begin on -/
def over (vs : List S) : List S → Option (List S) :=
  List.rec (fun cs => some cs) (fun v _ r cs => List.casesOn cs none (fun _ cs => ap (r cs) fun x => some (v :: x))) vs
/-- cells over others, from a place on -/
def lay (cs : List S) (o : Nat) (vs : List S) : Option (List S) :=
  List.rec (fun o => Nat.casesOn o (over vs []) (fun _ => none)) (fun c cs r o => Nat.casesOn o (over vs (c :: cs)) (fun o => ap (r o) fun x => some (c :: x))) cs o

def storeC (i o : Nat) (vs : List S) (h : H) : Option H :=
  hRow h i none fun e cs fz => Bool.casesOn fz (ap (lay cs o vs) fun cs => some (h.set i (.row e cs false))) none
def storeV (t : TypeId) (a v : V) (h : H) : Option H :=
  vPtr a none fun i o => ap (sizeOf? P t) fun n => vCells v none fun vs => gd (Nat.beq (lenl vs) n) (storeC i o vs h)

/-- what an operation comes to -/
inductive RO where
  | bad
  | val (v : V) (h : H)
  | fork (l : List (V × H))
  | call (f : V) (args : List V)
  | dfr (f : V) (args : List V)

def rv (h : H) (o : Option V) : RO := Option.casesOn o .bad (fun v => .val v h)
def rh (o : Option H) : RO := Option.casesOn o .bad (fun h => .val undef' h)

def newRow (e : TypeId) (cs : List S) (h : H) (f : Nat → S) : RO := h.new (.row e cs false) .bad fun n h => .val (one (f n)) h
def newVar (t : TypeId) (v : V) (h : H) : RO := vCells v .bad fun cs => newRow t cs h fun n => .ptr n 0

def fill (place : Nat → Option (Nat × Nat)) (ps : List (Nat × V)) : List S → Option (List S) :=
  List.rec (fun cs => some cs) (fun p _ r cs => ap (place p.1) fun q => vCells p.2 none fun vs => gd (Nat.beq (lenl vs) q.2) (ap (lay cs q.1 vs) r)) ps
def reps (z : List S) (n : Nat) : List S := Nat.rec [] (fun _ r => app z r) n
def placesF (fs : List Field) : Option (List (Nat × Nat)) := mapo (fun f => ap (sizeOf? P f.type) fun s => some (f.offset, s)) fs
def placeA (s i : Nat) : Option (Nat × Nat) := some (Nat.mul i s, s)

def buildSt (zc : List S) (fs : List Field) (ps : List (Nat × V)) : Option V := ap (placesF P fs) fun pl => ap (fill (fun i => nth? pl i) ps zc) fun cs => some (agg cs)
def buildAr (zc : List S) (e : TypeId) (ps : List (Nat × V)) : Option V := ap (sizeOf? P e) fun s => ap (fill (placeA s) ps zc) fun cs => some (agg cs)
def build (t : TypeId) (ps : List (Nat × V)) : Option V :=
  ap (zeroOf P t) fun zc => Option.casesOn (fieldsOf P t) (ap (arrayOf P t) fun a => buildAr P zc a.2 ps) (fun fs => buildSt P zc fs ps)

def buildSlice (t : TypeId) (n : Nat) (ps : List (Nat × V)) (h : H) : RO :=
  Option.casesOn (ap (sliceElem P t) fun e => ap (sizeOf? P e) fun s => ap (zeroOf P e) fun zc =>
    gd (Nat.ble (Nat.mul n s) 16777216) (gd (Nat.beq (lenl zc) s) (ap (fill (placeA s) ps (reps zc n)) fun cs => some (e, cs)))) .bad
    (fun p => newRow p.1 p.2 h fun i => .slc i 0 n (.ex n))

/-- a slice's (or a text's) first n elements' cells -/
def firstC (s n : Nat) (x : S) (h : H) : Option (List S) :=
  sSlc x (sStr x none fun b => gd (Nat.beq s 1) (some (bytesS (takel n b)))) (some []) fun i o _ _ => hRow h i none fun _ cs _ => sub? cs o (Nat.mul n s)
def lenOf (x : S) : Option Nat := sSlc x (sStr x none fun b => some (lenl b)) (some 0) fun _ _ n _ => some n

/-- is there room in any memory? -/
def small (m bytes : Nat) : Bool := andb (Nat.ble m 1099511627776) (Nat.ble (Nat.mul m bytes) 140737488355328)

/-- an append that makes memory anew (cs: all its cells) -/
def appNew (e : TypeId) (bytes s m : Nat) (cs : List S) (h : H) : RO :=
  Bool.casesOn (small m bytes) .bad (forceN m .bad fun m => newRow e cs h fun i => .slc i 0 m (.op s))
/-- in place, or anew: who holds the old row holds nothing any more -/
def appAny (e : TypeId) (bytes i o len m s : Nat) (cs new : List S) (h : H) : RO :=
  Bool.casesOn (andb (Nat.beq o 0) (notb (Nat.beq s 0))) .bad ( Option.casesOn (sub? cs o (Nat.mul len s)) .bad (fun old => appNew e bytes s (Nat.add len m) (app old new) (h.set i .gone)))
def appEx (e : TypeId) (bytes o len m s : Nat) (cs new : List S) (h : H) : RO :=
  Option.casesOn (sub? cs o (Nat.mul len s)) .bad (fun old => appNew e bytes s (Nat.add len m) (app old new) h)
def appSlc (e : TypeId) (bytes s m : Nat) (new : List S) (i o len : Nat) (c : Cp) (h : H) : RO :=
  hRow h i .bad fun e' cs fz => Cp.casesOn c
    (fun c => Bool.casesOn (Nat.ble (Nat.add len m) c) (appEx e bytes o len m s cs new h) .bad)
    (fun t => Bool.casesOn fz (Bool.casesOn (andb (Nat.beq e' e) (andb (Nat.beq t s) (Nat.beq (Nat.add o (Nat.mul len s)) (lenl cs)))) .bad (appAny e bytes i o len m s cs new h)) .bad)
def appV (e : TypeId) (bytes s : Nat) (x y : S) (h : H) : RO :=
  Option.casesOn (lenOf y) .bad (fun m => Nat.casesOn m (sSlc x .bad (.val (one x) h) fun _ _ _ _ => .val (one x) h)
    (fun _ => Option.casesOn (firstC s m y h) .bad (fun new => sSlc x .bad (appNew e bytes s m new h) fun i o len c => appSlc e bytes s m new i o len c h)))
def append (sT xT : TypeId) (x y : V) (h : H) : RO :=
  Bool.casesOn (isIntT P xT) (Bool.casesOn (known P xT) .bad (Option.casesOn (ap (sliceElem P sT) fun e => ap (bytesOf? P e) fun b => ap (sizeOf? P e) fun s => ap (zeroOf P e) fun zc => gd (Nat.beq (lenl zc) s) (some (e, b, s))) .bad
    (fun p => vS x .bad fun x => vS y .bad fun y => appV p.1 p.2.1 p.2.2 x y h))) .bad

/-- a bound of a slice expression -/
def oNat (o : Option V) : Option (Option Nat) := Option.casesOn o (some none) (fun v => vNat v none fun n => some (some n))
def sliceStr (s : List Nat) (l g : Nat) : Option V :=
  gd (Nat.ble g (lenl s)) (gd (Nat.ble l g) (some (one (.str (takel (Nat.sub g l) (dropl s l))))))
def cpSub (c : Cp) (l : Nat) : Cp := Cp.casesOn c (fun c => .ex (Nat.sub c l)) .op
def cpOk (c : Cp) (s : Nat) : Bool := Cp.casesOn c (fun _ => true) (fun t => Nat.beq t s)
def fits (len : Nat) (c : Cp) (n : Nat) : Bool := Cp.casesOn c (fun c => Nat.ble n c) (fun _ => Nat.ble n len)
def mkSlc (i o n : Nat) (c : Cp) : Option V := forceN o none fun o => forceN n none fun n => some (one (.slc i o n c))
def sliceSlc (s : Nat) (i o len : Nat) (c : Cp) (l g : Nat) (mx : Option Nat) : Option V :=
  gd (cpOk c s) (gd (Nat.ble l g) (Option.casesOn mx (gd (fits len c g) (mkSlc i (Nat.add o (Nat.mul l s)) (Nat.sub g l) (cpSub c l)))
    (fun m => gd (fits len c m) (gd (Nat.ble g m) (mkSlc i (Nat.add o (Nat.mul l s)) (Nat.sub g l) (.ex (Nat.sub m l)))))))
def sliceS (t : TypeId) (x : S) (lo hi mx : Option Nat) : Option V :=
  sStr x (ap (sliceElem P t) fun e => ap (sizeOf? P e) fun s =>
      sSlc x none (gd (Nat.beq (getO lo 0) 0) (gd (Nat.beq (getO hi 0) 0) (Option.casesOn mx (some (one .nils)) (fun _ => none))))
        fun i o len c => Bool.casesOn (andb mx.isSome hi.isNone) (sliceSlc s i o len c (getO lo 0) (getO hi len) mx) none)
    fun s => gd (isStr P t) (Option.casesOn mx (sliceStr s (getO lo 0) (getO hi (lenl s))) (fun _ => none))
def slice (t : TypeId) (x : V) (lo hi mx : Option V) : Option V :=
  ap (oNat lo) fun lo => ap (oNat hi) fun hi => ap (oNat mx) fun mx => vS x none fun x => sliceS P t x lo hi mx

def mkPtr (i o : Nat) : Option V := forceN o none fun o => some (one (.ptr i o))
def fieldAddr (s : TypeId) (x : V) (f : Nat) : Option V :=
  ap (fieldsOf P s) fun fs => ap (nth? fs f) fun f => ap (sizeOf? P f.type) fun n => Nat.casesOn n none
    (fun _ => vPtr x none fun i o => mkPtr i (Nat.add o f.offset))
def field (t : TypeId) (x : V) (f : Nat) : Option V :=
  ap (fieldsOf P t) fun fs => ap (nth? fs f) fun f => vAgg x none fun cs => part? P f.type cs f.offset

def elemAt (s len i o n : Nat) : Option V := gd (Nat.blt n len) (mkPtr i (Nat.add o (Nat.mul n s)))
def indexAddr (t : TypeId) (x ix : V) : Option V :=
  vNat ix none fun n => vS x none fun x => Option.casesOn (sliceElem P t)
    (ap (arrayOf P t) fun a => ap (sizeOf? P a.2) fun s => sPtr x none none fun i o => elemAt s a.1 i o n)
    (fun e => ap (sizeOf? P e) fun s => sSlc x none none fun i o len _ => elemAt s len i o n)
def index (t : TypeId) (x ix : V) : Option V :=
  vNat ix none fun n => vU x none fun x => U.casesOn x (fun x => sStr x none fun s => gd (isStr P t) (ap (nth? s n) fun b => some (one (byteS b))))
    (fun cs => ap (arrayOf P t) fun a => ap (sizeOf? P a.2) fun s => gd (Nat.blt n a.1) (part? P a.2 cs (Nat.mul n s)))

/-! ### maps -/

/-- a key that can be asked: of a number, a text, or a struct of these -/
def keyOk (t : TypeId) (u : U) : Bool :=
  U.casesOn u (fun x => sInt x (sStr x false fun _ => isStr P t) fun _ _ => isIntT P t) (fun cs => Option.casesOn (eqU P t (.agg cs) (.agg cs)) false (fun b => b))
def findK (kt : TypeId) (k : U) (es : List E) : Option (Option (Nat × U)) :=
  List.rec (fun _ => some none) (fun e _ r i => ap (eqU P kt k e.k) fun b => Bool.casesOn b (r (Nat.succ i)) (some (some (i, e.v)))) es 0
def putAt (k v : U) (es : List E) : Nat → List E :=
  List.rec (fun _ => []) (fun e es r i => Nat.casesOn i (⟨k, v, e.born⟩ :: es) (fun i => e :: r i)) es

def lookR (ok : Bool) (v : U) (b : Bool) : V := Bool.casesOn ok (.u v) (.tup [v, .s (.bool b)])
def zeroU (t : TypeId) : Option U := ap (P.info? t) fun i => ap i.zero fun z => vU (ofVal z) none some
def lookIn (kt : TypeId) (k z : U) (ok : Bool) (es : List E) : Option V :=
  ap (findK P kt k es) fun r => some (Option.casesOn r (lookR ok z false) (fun p => lookR ok p.2 true))
def lookup (t : TypeId) (x k : V) (ok : Bool) (h : H) : Option V :=
  ap (mapOf P t) fun m => ap (zeroU P m.2) fun z => vU k none fun k => gd (keyOk P m.1 k)
    (vS x none fun x => sMap x none (some (lookR ok z false)) fun i => oMap (h.get i) none fun es _ => lookIn P m.1 k z ok es)

def putIn (k v : U) (es : List E) (c i : Nat) : Option O := ap (nth? es i) fun e => gd (sameU k e.k) (some (.map (putAt k v es i) c))
def updIn (kt : TypeId) (k v : U) (es : List E) (c : Nat) : Option O :=
  ap (findK P kt k es) fun r => Option.casesOn r (forceN c none fun c => some (.map (app es [⟨k, v, c⟩]) (Nat.succ c))) (fun p => putIn k v es c p.1)
def update (t : TypeId) (x k v : V) (h : H) : Option H :=
  ap (mapOf P t) fun m => vU k none fun k => vU v none fun v => gd (keyOk P m.1 k) (vS x none fun x => sMap x none none fun i => oMap (h.get i) none fun es c => ap (updIn P m.1 k v es c) fun o => some (h.set i o))

def range (t : TypeId) (x : V) (h : H) : RO :=
  vS x .bad fun x => sStr x (Bool.casesOn (mapOf P t).isSome .bad (sMap x .bad .bad fun i => oMap (h.get i) .bad fun _ c => h.new (.miter i c [] c) .bad fun n h => .val (one (.ptr n 0)) h))
    fun s => Bool.casesOn (isStr P t) .bad (h.new (.siter s 0) .bad fun n h => .val (one (.ptr n 0)) h)

def nextStr (r : Nat) (s : List Nat) (pos : Nat) (h : H) : RO :=
  Option.casesOn (nth? s pos) (.val (.tup [.s (.bool false)]) h) (fun b => Bool.casesOn (Nat.blt (byteN b) 128) .bad
    (forceN pos .bad fun pos => .val (.tup [.s (.bool true), .s (.int .i64 (.ofNat pos)), .s (.int .i32 (.ofNat (byteN b)))]) (h.set r (.siter s (Nat.succ pos)))))

def hasN (l : List Nat) (n : Nat) : Bool := anyl (fun m => Nat.beq m n) l
/-- what is left of a map that is ranged over (all that was there from the begin on) -/
def left (seen : List Nat) (es : List E) : List E := List.rec [] (fun e _ r => Bool.casesOn (hasN seen e.born) (e :: r) r) es
def stepTo (r m since : Nat) (seen : List Nat) (clock : Nat) (h : H) (e : E) : V × H :=
  (.tup [.s (.bool true), e.k, e.v], h.set r (.miter m since (app seen [e.born]) clock))
def nextMap (r m since : Nat) (seen : List Nat) (stepped : Nat) (h : H) : RO :=
  oMap (h.get m) .bad fun es clock => Bool.casesOn (andb (Nat.ble since stepped) (alll (fun e => Nat.blt e.born since) es)) .bad
    (List.casesOn (left seen es) (.val (.tup [.s (.bool false)]) h) (fun e rest => List.casesOn rest (.val (stepTo r m since seen clock h e).1 (stepTo r m since seen clock h e).2)
      (fun _ _ => .fork (mapl (stepTo r m since seen clock h) (e :: rest)))))
def next (it : V) (isString : Bool) (h : H) : RO :=
  vPtr it .bad fun r o => Nat.casesOn o (O.casesOn (h.get r) .bad (fun _ _ _ => .bad) (fun _ _ => .bad)
    (fun m since seen stepped => Bool.casesOn isString (nextMap r m since seen stepped h) .bad) (fun s pos => Bool.casesOn isString .bad (nextStr r s pos h)) (fun _ _ _ _ _ _ => .bad) .bad) (fun _ => .bad)

def lastl (l : List Nat) : Option Nat := List.rec none (fun x _ r => Option.casesOn r (some x) (fun y => some y)) l
def entryIn (n : Nat) (es : List E) : Option V := List.rec none (fun e _ r => Bool.casesOn (Nat.beq e.born n) r (some (.tup [e.k, e.v]))) es
def entryOf (m : Nat) (seen : List Nat) (stepped : Nat) (h : H) : Option V :=
  ap (lastl seen) fun n => oMap (h.get m) none fun es clock => gd (Nat.beq clock stepped) (entryIn n es)
def entry (it : V) (h : H) : Option V :=
  vPtr it none fun r o => Nat.casesOn o (O.casesOn (h.get r) none (fun _ _ _ => none) (fun _ _ => none)
    (fun m _ seen stepped => entryOf m seen stepped h) (fun _ _ => none) (fun _ _ _ _ _ _ => none) none) (fun _ => none)

/-! ### operations -/

def tpath (t : Nat) : List Q := pathOf 4 t
def ev (T : Tr V) (x : Operand) : V :=
  Operand.casesOn x (fun t => T.get .any (tpath t)) (fun v => ofVal v) (fun _ => .any) (fun f => one (.fn f [] []))
def evs (T : Tr V) (a : Array Operand) : List V := mapl (ev T) a.toList
def evp (T : Tr V) (a : Array (Nat × Operand)) : List (Nat × V) := mapl (fun p => (p.1, ev T p.2)) a.toList
def evo (T : Tr V) (o : Option Operand) : Option V := Option.casesOn o none (fun x => some (ev T x))

/-- has the value a length, being of this type? -/
def lenT (t : TypeId) (x : S) : Bool := sSlc x (sStr x false fun _ => isStr P t) (sliceElem P t).isSome fun _ _ _ _ => (sliceElem P t).isSome
def lenV (t : TypeId) (x : V) (h : H) : RO := vS x .bad fun x => Bool.casesOn (lenT P t x) .bad (Option.casesOn (lenOf x) .bad (fun n => .val (nat n) h))
def maxV (x y : V) (h : H) : RO := vInt x .bad fun k a => vInt y .bad fun _ b => .val (int k (Bool.casesOn (ltI a b) a b)) h
def minV (x y : V) (h : H) : RO := vInt x .bad fun k a => vInt y .bad fun _ b => .val (int k (Bool.casesOn (ltI b a) a b)) h
def byteOf (v : S) : Option Nat := sInt v none fun k n => gd (eqK k .u8) (Int.casesOn n (fun m => gd (Nat.blt m 256) (some m)) (fun _ => none))
/-- a row's begin seen as the same type: one cell each -/
def oneCell (e : TypeId) : Bool := Option.casesOn (sizeOf? P e) false (fun s => Nat.beq s 1)
def unsIn (t i n e : Nat) (cs : List S) (h : H) : RO :=
  Bool.casesOn (andb (Nat.ble n 1048576) (andb (Option.casesOn (ptrTo P t) false (fun u => Nat.beq u e)) (oneCell P e))) .bad
    (Option.casesOn (ap (sub? cs 0 n) (mapo byteOf)) .bad (fun bs => .val (one (.str bs)) (h.set i (.row e cs true))))
def unsStr (t : TypeId) (p n : V) (h : H) : RO :=
  vNat n .bad fun n => Nat.casesOn n .bad (fun _ => vPtr p .bad fun i o => Nat.casesOn o (hRow h i .bad fun e cs _ => unsIn P t i n e cs h) (fun _ => .bad))
def sliceData (x : V) (h : H) : RO :=
  vS x .bad fun x => sSlc x .bad (.val (one .nilp) h) fun i o n _ => Nat.casesOn n .bad (fun _ => .val (one (.ptr i o)) h)

def arg1 (l : List V) (f : V → RO) : RO := List.casesOn l .bad (fun x r => List.casesOn r (f x) (fun _ _ => .bad))
def arg2 (l : List V) (f : V → V → RO) : RO := List.casesOn l .bad (fun x r => List.casesOn r .bad (fun y r => List.casesOn r (f x y) (fun _ _ => .bad)))

def builtinAt (b : Builtin) (t u : TypeId) (args : List V) (h : H) : RO :=
  Builtin.casesOn (motive := fun _ => RO) b (arg2 args fun x y => append P t u x y h) .bad .bad .bad .bad .bad .bad .bad (arg1 args fun x => lenV P t x h) .bad (arg2 args fun x y => maxV x y h) (arg2 args fun x y => minV x y h) .bad .bad .bad .bad .bad .bad .bad .bad (arg1 args fun x => sliceData x h) (arg2 args fun x y => unsStr P t x y h) .bad .bad .bad .bad
def builtin (b : Builtin) (ts : Array TypeId) (args : List V) (h : H) : RO :=
  Option.casesOn (nth? ts.toList 0) .bad (fun t => builtinAt P b t (getO (nth? ts.toList 1) 0) args h)

def toBytes (e : TypeId) (s : List Nat) (h : H) : RO := Bool.casesOn (isU8 P e) .bad (forceN (lenl s) .bad fun n => newRow e (bytesS s) h fun i => .slc i 0 n (.op 1))
def ofBytes (e : TypeId) (x : S) (h : H) : RO :=
  Bool.casesOn (isU8 P e) .bad (sSlc x .bad (.val (one (.str [])) h) fun i o n _ => hRow h i .bad fun _ cs _ =>
    Option.casesOn (ap (sub? cs o n) (mapo byteOf)) .bad (fun bs => .val (one (.str bs)) h))
/-- a pointer to a variable of some cells in a row -/
def ptrIn (x : S) (h : H) (f : Nat → Nat → TypeId → List S → Bool) : RO := sPtr x .bad .bad fun i o => hRow h i .bad fun e cs _ => Bool.casesOn (f i o e cs) .bad (.val (one (.ptr i o)) h)
def ptrOut (t : TypeId) (o : Nat) (cs : List S) : Bool := Option.casesOn (ptrTo P t) false (fun u => Option.casesOn (sizeOf? P u) false (fun n => andb (notb (Nat.beq n 0)) (Nat.blt o (lenl cs))))
def ptrBack (t : TypeId) (o e : Nat) (cs : List S) : Bool :=
  Option.casesOn (ptrTo P t) false (fun u => Option.casesOn (sizeOf? P u) false (fun n => andb (andb (notb (Nat.beq n 0)) (Nat.ble n (lenl cs))) (andb (Nat.beq u e) (Nat.beq o 0))))
def convPtr (s d : TypeId) (x : S) (h : H) : RO :=
  Bool.casesOn (isUns P d) (Bool.casesOn (isUns P s) .bad (ptrIn x h fun _ o e cs => ptrBack P d o e cs)) (ptrIn x h fun _ o _ cs => ptrOut P s o cs)
def convS (s d : TypeId) (x : S) (h : H) : RO :=
  sInt x (sStr x (Bool.casesOn (isStr P d) (convPtr P s d x h) (Option.casesOn (sliceElem P s) .bad (fun e => ofBytes P e x h)))
    fun b => Bool.casesOn (isStr P s) .bad (Option.casesOn (sliceElem P d) (Bool.casesOn (isStr P d) .bad (.val (one x) h)) (fun e => toBytes P e b h)))
    fun _ n => Option.casesOn (intK P d) .bad (fun k => .val (int k (wrapK k n)) h)
def convert (s d : TypeId) (x : V) (h : H) : RO := Bool.casesOn (known P s) .bad (vS x .bad fun x => convS P s d x h)

def nilCheck (v : V) (h : H) : RO := vPtr v .bad fun _ _ => .val v h

def makeSlice (t : TypeId) (l c : V) (h : H) : RO :=
  vNat l .bad fun l => vNat c .bad fun c => Option.casesOn (ap (sliceElem P t) fun e => ap (bytesOf? P e) fun b => ap (sizeOf? P e) fun s => ap (zeroOf P e) fun zc =>
    gd (Nat.ble (Nat.mul b c) 1048576) (gd (Nat.ble c 1048576) (gd (Nat.ble l c) (gd (Nat.beq (lenl zc) s) (some (e, reps zc c)))))) .bad
    (fun p => newRow p.1 p.2 h fun i => .slc i 0 l (.ex c))

def alloc (t : TypeId) (h : H) : RO := Option.casesOn (zeroOf P t) .bad (fun zc => newRow t zc h fun n => .ptr n 0)
def pick (c a b : V) (h : H) : RO := vBool c .bad fun c => Bool.casesOn c (.val b h) (.val a h)
def makeMap (r : Option Operand) (h : H) : RO := Option.casesOn r (h.new (.map [] 0) .bad fun n h => .val (one (.map n)) h) (fun _ => .bad)
def capOf (v : V) : Option Nat := vPtr v none fun i o => Nat.casesOn o (some i) (fun _ => none)
def mkFn (f : FuncId) (a b : List V) (h : H) : RO := Option.casesOn (mapo capOf a) .bad (fun a => Option.casesOn (mapo capOf b) .bad (fun b => .val (one (.fn f a b)) h))
def makeFunc (T : Tr V) (f : Fn) (a b : Array Operand) (h : H) : RO :=
  Fn.casesOn (motive := fun _ => RO) f (fun f => mkFn f (evs T a) (evs T b) h) (fun _ => .bad) (fun _ _ => .bad) (fun _ _ _ _ => .bad) (fun _ => .bad)
def makeIface (t : TypeId) (x : V) (h : H) : RO := Bool.casesOn (isIface P t) (Bool.casesOn (known P t) .bad (vS x .bad fun x => sMap x .bad .bad fun i => .val (one (.ifc t i)) h)) .bad
def typeAssert (x : V) (t : TypeId) (ok : Bool) (h : H) : RO :=
  Bool.casesOn (isIface P t) (Bool.casesOn (known P t) .bad (vS x .bad fun x => sIfc x .bad fun u m => Bool.casesOn (Nat.beq u t) .bad (.val (lookR ok (.s (.map m)) true) h))) .bad
def extract (x : V) (i : Nat) (h : H) : RO := vTup x .bad fun vs => Option.casesOn (nth? vs i) .bad (fun u => .val (.u u) h)
def callOp (T : Tr V) (c : Call) (h : H) : RO :=
  Callee.casesOn c.callee (fun f => .call (ev T f) (evs T c.args)) (fun _ _ => .bad) (fun b => builtin P b c.argTypes (evs T c.args) h)
def deferOp (T : Tr V) (c : Call) : RO :=
  Callee.casesOn c.callee (fun f => .dfr (ev T f) (evs T c.args)) (fun _ _ => .bad) (fun _ => .bad)

def opV (T : Tr V) (h : H) (o : Op) : RO :=
  Op.casesOn (motive := fun _ => RO) o
    (fun x => .val (ev T x) h)
    (fun x => .val (ev T x) h)
    (fun c a b => pick (ev T c) (ev T a) (ev T b) h)
    (fun e => alloc P e h)
    (fun e x => newVar e (ev T x) h)
    (fun t ps => rv h (build P t (evp T ps)))
    (fun t n ps => buildSlice P t n (evp T ps) h)
    (fun _ _ _ _ => .bad)
    (fun t a => rv h (loadV P t (ev T a) h))
    (fun t a x => rh (storeV P t (ev T a) (ev T x) h))
    (fun _ => .bad)
    (fun _ => .bad)
    (fun x => nilCheck (ev T x) h)
    (fun op t x y _ => rv h (binV P op t (ev T x) (ev T y)))
    (fun op _ x => rv h (unV op (ev T x)))
    (fun s d x => convert P s d (ev T x) h)
    (fun _ _ => .bad)
    (fun t x => makeIface P t (ev T x) h)
    (fun f a b => makeFunc T f a b h)
    (fun _ r => makeMap r h)
    (fun _ _ => .bad)
    (fun t l c => makeSlice P t (ev T l) (ev T c) h)
    (fun t x lo hi mx => rv h (slice P t (ev T x) (evo T lo) (evo T hi) (evo T mx)))
    (fun s x f => rv h (fieldAddr P s (ev T x) f))
    (fun t x f => rv h (field P t (ev T x) f))
    (fun t x ix => rv h (indexAddr P t (ev T x) (ev T ix)))
    (fun t x ix => rv h (index P t (ev T x) (ev T ix)))
    (fun t x ix ok => rv h (lookup P t (ev T x) (ev T ix) ok h))
    (fun t m k x => rh (update P t (ev T m) (ev T k) (ev T x) h))
    (fun _ _ _ => .bad)
    (fun _ _ _ _ => .bad)
    (fun t x => range P t (ev T x) h)
    (fun it b => next (ev T it) b h)
    (fun it => rv h (entry (ev T it) h))
    (fun x _ t ok => typeAssert P (ev T x) t ok h)
    (fun t i => extract (ev T t) i h)
    (fun c => callOp P T c h)
    (fun _ => .bad)
    (fun c => deferOp T c)
    (fun _ => .bad)
    (fun _ _ => .bad)
    (fun _ _ _ => .bad)
    (fun _ _ => .bad)

end
end

end Go.Sx
