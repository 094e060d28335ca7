/-
  THE ABSTRACT INTERPRETER, second part: regions, code, calls.
-/
import Derived.Test.YtechbpephhdmpaaGreatDoorA1
namespace Go.Sx
noncomputable section

inductive D where
  | call (f : V) (args : List V)
  | mark (r : Nat)

structure St where
  T : Tr V
  ds : List D
  h : H

inductive Ex where
  | normal
  | exit (id : Nat)
  | ret

inductive R where
  | bad (m : String)
  | one (e : Ex) (s : St)
  | many (l : List (Ex × St))

inductive RC where
  | bad (m : String)
  | one (v : V) (h : H)
  | many (l : List (V × H))

structure Ev where
  code : Code → Bool → St → R
  call : V → List V → H → RC

/-! ### several ends -/

def R.list (r : R) : Option (List (Ex × St)) := R.casesOn r (fun _ => none) (fun e s => some [(e, s)]) (fun l => some l)
def RC.list (r : RC) : Option (List (V × H)) := RC.casesOn r (fun _ => none) (fun v h => some [(v, h)]) (fun l => some l)
def flat {α : Type} (l : List (List α)) : List α := List.rec [] (fun x _ r => app x r) l
def R.all (l : List R) : R := Option.casesOn (mapo R.list l) (.bad "all") (fun ls => .many (flat ls))
def RC.all (l : List RC) : RC := Option.casesOn (mapo RC.list l) (.bad "all") (fun ls => .many (flat ls))

def R.thn (k : St → R) (e : Ex) (s : St) : R := Ex.casesOn e (k s) (fun j => .one (.exit j) s) (.one .ret s)
def R.bind (r : R) (k : St → R) : R := R.casesOn r .bad (fun e s => R.thn k e s) (fun l => R.all (mapl (fun p => R.thn k p.1 p.2) l))
def RC.bindR (r : RC) (k : V → H → R) : R := RC.casesOn r .bad k (fun l => R.all (mapl (fun p => k p.1 p.2) l))
def RC.bindC (r : RC) (k : V → H → RC) : RC := RC.casesOn r .bad k (fun l => RC.all (mapl (fun p => k p.1 p.2) l))

/-! ### regions -/

def put (T : Tr V) (d : Option Tmp) (v : V) : Tr V := Option.casesOn d T (fun t => T.set v (tpath t))

def guardV (want : Bool) (v : V) : Option Bool := V.casesOn v none (fun _ => vBool v (some false) fun b => some (eqB b want)) (fun _ => some false)
def guardBy (T : Tr V) (want : Bool) (g : Oper) : Option Bool := Option.casesOn g.dst (some false) (fun t => guardV want (T.get .any (tpath t)))
def wanted (ops : List Oper) (T : Tr V) (o : Oper) : Option Bool :=
  Option.casesOn o.guard (some true) (fun p => Option.casesOn (nth? ops p.1) (some false) (fun g => guardBy T p.2 g))

section
variable (P : Program)

/-- 1: next; 2: a call of a function value; 3: a deferred one; 0: another operation -/
def opNo (o : Op) : Nat := match o with
  | .next _ _ => 1
  | .call c => match c.callee with | .value _ => 2 | _ => 0
  | .defer c => match c.callee with | .value _ => 3 | _ => 0
  | _ => 0
def isFn (f : V) : Bool := vS f false fun f => sFn f false (fun _ _ _ => true) (fun _ => false)
def opGo (ih : Ev) (cx : Bool) (o : Oper) (k : St → R) (s : St) (r : RO) : R :=
  RO.casesOn r (.bad o.pos) (fun v h => k ⟨put s.T o.dst v, s.ds, h⟩)
    (fun l => Bool.casesOn (Nat.beq (opNo o.op) 1) (.bad o.pos) (R.all (mapl (fun p => k ⟨put s.T o.dst p.1, s.ds, p.2⟩) l)))
    (fun f args => Bool.casesOn (Nat.beq (opNo o.op) 2) (.bad o.pos) ((ih.call f args s.h).bindR fun v h => k ⟨put s.T o.dst v, s.ds, h⟩))
    (fun f args => Bool.casesOn (andb (isFn f) (andb (Nat.beq (opNo o.op) 3) (notb cx))) (.bad o.pos) (k ⟨put s.T o.dst undef', .call f args :: s.ds, s.h⟩))
def opStep (ih : Ev) (cx : Bool) (all : List Oper) (o : Oper) (k : St → R) (s : St) : R :=
  Option.casesOn (wanted all s.T o) (.bad "wanted") (fun b => Bool.casesOn b (k ⟨put s.T o.dst undef', s.ds, s.h⟩) (opGo ih cx o k s (opV P s.T s.h o.op)))

/-- an operation, and whether it only moves a value -/
structure QO where
  mv : Bool
  x : Operand
  dp : List Q
  o : Oper
def qo (o : Oper) : QO := match o.op, o.dst, o.guard with
  | .move x, some d, none => ⟨true, x, tpath d, o⟩
  | .assign x, some d, none => ⟨true, x, tpath d, o⟩
  | _, _, _ => ⟨false, .tmp 0, [], o⟩
def qStep (ih : Ev) (cx : Bool) (all : List Oper) (q : QO) (k : St → R) (s : St) : R :=
  Bool.casesOn q.mv (opStep P ih cx all q.o k s) (k ⟨s.T.set (ev s.T q.x) q.dp, s.ds, s.h⟩)
/-- operations one behind the other -/
def evOps (ih : Ev) (cx : Bool) (all : List Oper) (l : List QO) : St → R := List.rec (fun s => .one .normal s) (fun q _ k s => qStep P ih cx all q k s) l

/-! ### regions that draw -/

inductive Cls where
  | q | l | a | w
  deriving DecidableEq

def cls (o : Op) : Cls := match o with
  | .move _ | .assign _ | .pick .. | .build .. | .nilCheck _ | .binOp .. | .unOp .. | .makeInterface .. | .makeFunc .. | .fieldAddr .. | .field ..
  | .indexAddr .. | .index .. | .extract .. | .typeAssert .. | .slice .. => .q
  | .load .. | .lookup .. | .entry _ => .l
  | .alloc _ | .box .. | .buildSlice .. | .makeMap .. | .makeSlice .. => .a
  | .convert s d _ => match (sliceElem P d).isSome, (sliceElem P s).isSome with
    | true, _ => .a
    | false, true => .l
    | false, false => match isUns P s || isUns P d with
      | true => .l
      | false => .q
  | .call c => match c.callee with
    | .builtin .len | .builtin .max | .builtin .min | .builtin .unsafeSliceData => .q
    | _ => .w
  | _ => .w

def maskOf (acc : List Nat) (o : Oper) : Nat :=
  o.after.toList.foldl (fun s e => if Region.binds .any e then s ||| 2 ^ e.on ||| acc.getD e.on 0 else s) 0
def masks (ops : List Oper) : List Nat := ops.foldl (fun acc o => acc ++ [maskOf acc o]) []

def tmpOf : Operand → List Nat
  | .tmp t => [t]
  | _ => []
def opTmps : Op → List Nat
  | .build _ ps | .buildSlice _ _ ps => ps.toList.flatMap fun (_, x) => tmpOf x
  | o => o.operands.toList.flatMap tmpOf
/-- the temporaries that an operation looks at -/
def ownTmps (ops : List Oper) (o : Oper) : List Nat := opTmps o.op ++ (match o.guard with
      | some (j, _) => match nth? ops j with
        | some g => g.dst.toList
        | none => []
      | none => [])
def bitsOf (l : List Nat) : Nat := List.rec 0 (fun t _ r => Nat.lor r (Nat.pow 2 t)) l

def hasA (ops : List Oper) : Bool := ops.any fun o => cls P o.op == .a
structure PO where
  o : Oper
  i : Nat
  m : Nat
  c : Cls
  q : QO
  own : Nat
def plan (ops : List Oper) : List PO := (ops.zipIdx.zip (masks ops)).map fun p => ⟨p.1.1, p.1.2, p.2, cls P p.1.1.op, qo p.1.1, bitsOf (ownTmps ops p.1.1)⟩

def isW (c : Cls) : Bool := Cls.casesOn c false false false true
def revTo {α : Type} (a : List α) : List α → List α := List.rec (fun b => b) (fun x _ r b => r (x :: b)) a
/-- an order in which what acts on memory comes as late as may be -/
def sortW (fuel : Nat) : List PO → Nat → List PO → List PO :=
  Nat.rec (fun _ _ _ => []) (fun _ r l hm held => List.casesOn l (List.casesOn (revTo held []) [] (fun w rest => w :: r rest 0 []))
    (fun o l => Bool.casesOn (orb (isW o.c) (notb (Nat.beq (Nat.land o.m hm) 0))) (o :: r l hm held) (forceN (Nat.lor hm (Nat.pow 2 o.i)) [] fun hm => r l hm (o :: held)))) fuel

/-- each once, and behind those that it waits for -/
def okSeq (full : Nat) (l : List PO) : Nat → Bool :=
  List.rec (fun acc => Nat.beq acc full) (fun y _ r acc => andb (notb (Nat.testBit acc y.i)) (andb (Nat.beq (Nat.land y.m acc) y.m) (forceN (Nat.lor acc (Nat.pow 2 y.i)) false r))) l
def dstNot (d : Option Tmp) (m : Nat) : Bool := Option.casesOn d true (fun t => notb (Nat.testBit m t))
def dstBit (d : Option Tmp) : Nat := Option.casesOn d 0 (fun t => Nat.pow 2 t)
/-- the second writes nothing that the first looks at or writes; it waits for the first, or looks at nothing of it, and the first does not act on memory -/
def okBefore (x y : PO) : Bool :=
  andb (dstNot y.o.dst (Nat.lor x.own (dstBit x.o.dst))) (orb (Nat.testBit y.m x.i) (andb (notb (isW x.c)) (dstNot x.o.dst y.own)))
def okPairs (l : List PO) : Bool := List.rec true (fun x xs r => andb (dstNot x.o.dst x.own) (andb (alll (okBefore x) xs) r)) l
def okDraw (N : Nat) (l : List PO) : Bool := andb (Nat.ble (lenl l) N) (andb (okSeq (Nat.sub (Nat.pow 2 N) 1) l 0) (okPairs l))

structure DS where
  T : Tr V
  h : H
  aside : List (Nat × O)
  lds : List (PO × V)

def absorb (base : Nat) (m : Option Nat) (l : List (Nat × O)) (h : H) : H :=
  List.rec h (fun p _ r => Bool.casesOn (Option.casesOn m true (fun m => Nat.testBit m p.1)) r (r.set (Nat.add base p.1) p.2)) l
def stays (m : Nat) (l : List (Nat × O)) : List (Nat × O) := List.rec [] (fun p _ r => Bool.casesOn (Nat.testBit m p.1) (p :: r) r) l

def isGone (o : O) : Bool := O.casesOn o true (fun _ _ _ => false) (fun _ _ => false) (fun _ _ _ _ => false) (fun _ _ => false) (fun _ _ _ _ _ _ => false) false
def isVal (r : RO) (v : V) : Bool := RO.casesOn r false (fun u _ => sameV u v) (fun _ => false) (fun _ _ => false) (fun _ _ => false)
def readAgain (T : Tr V) (h : H) (m : Nat) (lds : List (PO × V)) : Bool :=
  alll (fun p => orb (Nat.testBit m p.1.i) (isVal (opV P T h p.1.o.op) p.2)) lds

def DS.put (s : DS) (o : PO) (v : V) : DS := ⟨Sx.put s.T o.o.dst v, s.h, s.aside, s.lds⟩
def drQ (o : PO) (k : DS → R) (s : DS) (r : RO) : R :=
  RO.casesOn r (.bad o.o.pos) (fun v _ => k (s.put o v)) (fun _ => .bad "q") (fun _ _ => .bad "q") (fun _ _ => .bad "q")
def drL (o : PO) (k : DS → R) (s : DS) (r : RO) : R :=
  RO.casesOn r (.bad o.o.pos) (fun v _ => k ⟨Sx.put s.T o.o.dst v, s.h, s.aside, (o, v) :: s.lds⟩) (fun _ => .bad "l") (fun _ _ => .bad "l") (fun _ _ => .bad "l")
def drA (base : Nat) (o : PO) (k : DS → R) (s : DS) (r : RO) : R :=
  RO.casesOn r (.bad o.o.pos) (fun v h => Bool.casesOn (isGone (h.get (Nat.add base o.i))) (k ⟨Sx.put s.T o.o.dst v, s.h, (o.i, h.get (Nat.add base o.i)) :: s.aside, s.lds⟩) (.bad "a")) (fun _ => .bad "a") (fun _ _ => .bad "a") (fun _ _ => .bad "a")
def drNext (o : PO) (k : DS → R) (s : DS) (v : V) (h : H) : R :=
  Bool.casesOn (readAgain P s.T h o.m s.lds) (.bad o.o.pos) (k ⟨Sx.put s.T o.o.dst v, h, stays o.m s.aside, s.lds⟩)
def drW (ih : Ev) (o : PO) (k : DS → R) (s : DS) (h0 : H) : R :=
  RO.casesOn (opV P s.T h0 o.o.op) (.bad o.o.pos) (fun v h => drNext P o k s v h) (fun _ => .bad "w") (fun f args => Bool.casesOn (Nat.beq (opNo o.o.op) 2) (.bad o.o.pos) ((ih.call f args h0).bindR (drNext P o k s))) (fun _ _ => .bad "w")
def drGo (ih : Ev) (base : Nat) (o : PO) (k : DS → R) (s : DS) : R :=
  Cls.casesOn o.c (drQ o k s (opV P s.T s.h o.o.op)) (drL o k s (opV P s.T s.h o.o.op)) (drA base o k s (opV P s.T ⟨s.h.t, Nat.add base o.i⟩ o.o.op)) (drW P ih o k s (absorb base (some o.m) s.aside s.h))
def drStep (ih : Ev) (all : List Oper) (base : Nat) (o : PO) (k : DS → R) (s : DS) : R :=
  Bool.casesOn o.q.mv (Option.casesOn (wanted all s.T o.o) (.bad "wanted") (fun b => Bool.casesOn b (k (s.put o undef')) (drGo P ih base o k s)))
    (k ⟨s.T.set (ev s.T o.q.x) o.q.dp, s.h, s.aside, s.lds⟩)
def evDr (ih : Ev) (all : List Oper) (base : Nat) (ds : List D) (l : List PO) : DS → R :=
  List.rec (fun s => .one .normal ⟨s.T, ds, absorb base none s.aside s.h⟩) (fun o _ k s => drStep P ih all base o k s) l

def startH (a : Bool) (n len : Nat) (h : H) : H := Bool.casesOn a h ⟨h.t, Nat.add n len⟩
def evPlan (ih : Ev) (l : List Oper) (s : St) (pl : List PO) : R :=
  Bool.casesOn (okDraw (lenl l) pl) (.bad "okDraw") (forceN s.h.n (.bad "force") fun n =>
    Bool.casesOn (Nat.ble (Nat.add n (lenl l)) most) (.bad "most") (evDr P ih l n s.ds pl ⟨s.T, startH (hasA P l) n (lenl l) s.h, [], []⟩))
def evDraw (ih : Ev) (l : List Oper) (s : St) : R := evPlan P ih l s (sortW 100000 (plan P l) 0 [])

/-! ### code -/

def inBlock (id : Nat) (e : Ex) : Ex := Ex.casesOn e .normal (fun j => Bool.casesOn (Nat.beq id j) (.exit j) .normal) .ret
def blockR (id : Nat) (r : R) : R := R.casesOn r .bad (fun e s => .one (inBlock id e) s) (fun l => .many (mapl (fun p => (inBlock id p.1, p.2)) l))

def rfEnd (s : St) (l r : Nat) (h : H) : R :=
  oLoop (h.get l) (.bad "rangeFunc") fun busy _ _ _ _ _ => Bool.casesOn busy (.one .normal ⟨s.T, .mark r :: s.ds, h.set l .gone⟩) (.bad "rangeFunc")
/-- a function with a body -/
def hasBody (f : FuncId) : Bool := match P.funcs[f]? with
  | some fn => fn.body.isSome
  | none => false
def isBody (f : V) : Bool := vS f false fun f => sFn f false (fun g _ _ => hasBody P g) (fun _ => false)
def evRange (ih : Ev) (f : Operand) (ps : Array Tmp) (a b : Code) (cx : Bool) (s : St) : R :=
  Bool.casesOn (andb (isBody P (ev s.T f)) (notb cx)) (.bad "nested") (s.h.new .dfr (.bad "force") fun r h => h.new (.loop false s.T ps.toList a b r) (.bad "force") fun l h =>
    (ih.call (ev s.T f) [Sx.one (.yld l)] h).bindR fun _ h => rfEnd s l r h)
def evCond (ih : Ev) (x : V) (a b : Code) (cx : Bool) (s : St) : R := vBool x (.bad "cond") fun t => Bool.casesOn t (ih.code b cx s) (ih.code a cx s)
def evRegion (ih : Ev) (cx : Bool) (l : List Oper) (draw : Bool) (s : St) : R := Bool.casesOn draw (evOps P ih cx l (mapl qo l) s) (evDraw P ih l s)

def evCode (ih : Ev) (c : Code) (cx : Bool) (s : St) : R :=
  Code.casesOn (motive := fun _ => R) c (.one .normal s)
    (fun _ ops draw => evRegion P ih cx ops.toList draw s)
    (fun a b => (ih.code a cx s).bind fun s => ih.code b cx s)
    (fun x a b => evCond ih (ev s.T x) a b cx s)
    (fun id b => blockR id (ih.code b cx s))
    (fun b => (ih.code b cx s).bind fun s => ih.code (.loop b) cx s)
    (fun f ps a b => evRange P ih f ps a b cx s)
    (fun id => .one (.exit id) s)
    (fun _ => .bad "scope") (fun _ => .one .normal s) (fun _ => .bad "goto")
    (.one .ret s) (fun _ => .bad "refuse")

/-! ### functions without a body -/

inductive X where
  | same | count | indexByte
  | load (k : IntKind) | store | cas (k : IntKind) | add (k : IntKind)
  | mapsClone
  | flag | markAt
  | known (arg : List Nat) (res : List Nat)
  | yes
  | tab (tv t : TypeId) (pre post : List S)

def countB (c : Nat) (s : List Nat) : Nat := List.rec 0 (fun b _ r => Bool.casesOn (Nat.beq (byteN b) c) r (Nat.succ r)) s
def findB (c : Nat) (s : List Nat) : Nat → Int := List.rec (fun _ => .negSucc 0) (fun b _ r i => Bool.casesOn (Nat.beq (byteN b) c) (r (Nat.succ i)) (.ofNat i)) s
def rc1 (l : List V) (f : V → RC) : RC := List.casesOn l (.bad "args") (fun x r => List.casesOn r (f x) (fun _ _ => .bad "args"))
def rc2 (l : List V) (f : V → V → RC) : RC := List.casesOn l (.bad "args") (fun x r => rc1 r (f x))
def rc3 (l : List V) (f : V → V → V → RC) : RC := List.casesOn l (.bad "args") (fun x r => rc2 r (f x))
def vByte (c : V) (f : Nat → RC) : RC := vInt c (.bad "byte") fun k n => Bool.casesOn (eqK k .u8) (.bad "byte") (Int.casesOn n f (fun _ => .bad "byte"))
def atI (k : IntKind) (p : V) (h : H) (f : Nat → Nat → Int → RC) : RC :=
  vPtr p (.bad "atomic") fun i o => hRow h i (.bad "atomic") fun _ cs fz => Bool.casesOn fz (Option.casesOn (nth? cs o) (.bad "atomic") (fun v => sInt v (.bad "atomic") fun l n => Bool.casesOn (eqK k l) (.bad "atomic") (f i o n))) (.bad "atomic")
def stC (i o : Nat) (v : V) (r : V) (h : H) : RC := vS v (.bad "atomic") fun v => Option.casesOn (storeC i o [v] h) (.bad "atomic") (fun h => .one r h)
/-- a variable that points at a row of known cells: they become others -/
def tabIn (t : TypeId) (pre post : List S) (i j : Nat) (h : H) : RC :=
  hRow h j (.bad "tab") fun e cs fz => Bool.casesOn (andb (andb (Nat.beq e t) (notb fz)) (andb (notb (Nat.beq i j)) (eqL sameS cs pre))) (.bad "tab") (.one undef' (h.set j (.row t post false)))
def tabAt (tv t : TypeId) (pre post : List S) (i : Nat) (h : H) : RC :=
  hRow h i (.bad "tab") fun e cs fz => Bool.casesOn (andb (Nat.beq e tv) (notb fz)) (.bad "tab")
    (List.casesOn cs (.bad "tab") fun x r => List.casesOn r (sPtr x (.bad "tab") (.bad "tab") fun j p => Nat.casesOn p (tabIn t pre post i j h) (fun _ => .bad "tab")) (fun _ _ => .bad "tab"))
def evX (x : X) (args : List V) (h : H) : RC :=
  match x with
  | .same => rc1 args fun v => .one v h
  | .count => rc2 args fun s c => vStr s (.bad "count") fun s => vByte c fun c => .one (nat (countB (byteN c) s)) h
  | .indexByte => rc2 args fun s c => vStr s (.bad "index") fun s => vByte c fun c => .one (int .i64 (findB (byteN c) s 0)) h
  | .load k => rc1 args fun p => atI k p h fun _ _ n => .one (int k n) h
  | .store => rc2 args fun p v => vPtr p (.bad "atomic") fun i o => stC i o v undef' h
  | .cas k => rc3 args fun p a b => vInt a (.bad "atomic") fun _ a => vInt b (.bad "atomic") fun l b => atI k p h fun i o n => Bool.casesOn (eqI n a) (.one (bool false) h) (stC i o (int l b) (bool true) h)
  | .add k => rc2 args fun p y => vInt y (.bad "atomic") fun _ y => atI k p h fun i o n => stC i o (int k (wrapK k (Int.add n y))) (int k (wrapK k (Int.add n y))) h
  | .mapsClone => rc1 args fun x => vS x (.bad "clone") fun x => sIfc x (.bad "clone") fun t i => oMap (h.get i) (.bad "clone") fun es c =>
      h.new (.map es c) (.bad "clone") fun n h => .one (Sx.one (.ifc t n)) h
  | .flag => List.casesOn args (.one undef' h) (fun _ _ => .bad "args")
  | .markAt => rc1 args fun p => vPtr p (.bad "mark") fun _ _ => .one undef' h
  | .known a r => rc1 args fun s => vStr s (.bad "known") fun s => Bool.casesOn (eqL Nat.beq a s) (.bad "known") (.one (Sx.one (.str r)) h)
  | .yes => List.casesOn args (.one (bool true) h) (fun _ _ => .bad "args")
  | .tab tv t pre post => rc1 args fun a => vPtr a (.bad "tab") fun i o => Nat.casesOn o (tabAt tv t pre post i h) (fun _ => .bad "tab")

/-! ### calls -/

def capV (i : Nat) : V := Sx.one (.ptr i 0)
def tdepth (n : Nat) : Nat := Bool.casesOn (Nat.ble n 16) (Bool.casesOn (Nat.ble n 64) 4 3) 2
def T0 (n : Nat) : Tr V := Tr.full undef' (tdepth n)
/-- a text's temporaries are the function's -/
def okX (n : Nat) (x : Operand) : Bool := Operand.casesOn x (fun t => Nat.blt t n) (fun _ => true) (fun _ => true) (fun _ => true)
def okOper (n : Nat) (o : Oper) : Bool := andb (Option.casesOn o.dst true (fun t => Nat.blt t n)) (alll (fun t => Nat.blt t n) (opTmps o.op))
def okCode (n : Nat) (c : Code) : Bool :=
  Code.rec (motive := fun _ => Bool) true (fun _ ops _ => alll (okOper n) ops.toList) (fun _ _ a b => andb a b) (fun x _ _ a b => andb (okX n x) (andb a b)) (fun _ _ b => b) (fun _ b => b)
    (fun f ps _ _ a b => andb (okX n f) (andb (alll (fun t => Nat.blt t n) ps.toList) (andb a b))) (fun _ => true) (fun _ _ => true) (fun _ => true) (fun _ => true) true (fun _ => true) c
def okRes (n : Nat) (r : ResultVar) : Bool := ResultVar.casesOn r (fun t => Nat.blt t n) (fun t _ => Nat.blt t n)
def okBody (fn : Func) (c : Code) : Bool := andb (Nat.ble fn.ntmps 256) (andb (alll (okRes fn.ntmps) fn.results.toList) (okCode fn.ntmps c))
def funcOf (f : FuncId) : Option (Func × Code) := match P.funcs[f]? with
  | some fn => match fn.body with
    | some c => some (fn, c)
    | none => none
  | none => none

def setAll (vs : List V) : Nat → Tr V → Tr V := List.rec (fun _ T => T) (fun v _ r i T => r (Nat.succ i) (T.set v (tpath i))) vs

def resOne (T : Tr V) (h : H) (r : ResultVar) : Option U :=
  ap (ResultVar.casesOn r (fun t => some (T.get .any (tpath t))) (fun a t => loadV P t (T.get .any (tpath a)) h)) fun v => vU v none some
def resultsV (rs : List ResultVar) (T : Tr V) (h : H) : RC :=
  Option.casesOn (mapo (resOne P T h) rs) (.bad "results") (fun vs => List.casesOn vs (.one (.tup vs) h) (fun v r => List.casesOn r (.one (.u v) h) (fun _ _ => .one (.tup vs) h)))
/-- a deferred call: of a function that defers nothing itself -/
def dEnd (k : H → RC) (rs : List ResultVar) (s : St) : RC :=
  List.casesOn s.ds (RC.casesOn (resultsV P rs s.T s.h) .bad (fun _ h => k h) (fun _ => .bad "many")) (fun _ _ => .bad "defer in a deferred call")
def dR (k : H → RC) (rs : List ResultVar) (r : R) : RC :=
  R.casesOn r .bad (fun e s => Ex.casesOn e (dEnd P k rs s) (fun _ => .bad "exit") (dEnd P k rs s)) (fun _ => .bad "many in a deferred call")
def dBody (ih : Ev) (k : H → RC) (fn : Func) (c : Code) (args : List V) (h : H) : RC :=
  Bool.casesOn (andb (okBody fn c) (Nat.ble (lenl args) fn.ntmps)) (.bad "temporaries") (dR P k fn.results.toList (ih.code c false ⟨setAll args 0 (T0 fn.ntmps), [], h⟩))
def dCall (ih : Ev) (k : H → RC) (f : V) (args : List V) (h : H) : RC :=
  vS f (.bad "call") fun f => sFn f (.bad "call") (fun f a b => Option.casesOn (funcOf P f) (.bad "no function") (fun p => dBody P ih k p.1 p.2 (app (mapl capV a) (app args (mapl capV b))) h)) (fun _ => .bad "yield")
def runDefers (ih : Ev) (k : H → RC) (ds : List D) : H → RC :=
  List.rec k (fun d _ r h => D.casesOn d (fun f args => dCall P ih r f args h)
    (fun m => O.casesOn (h.get m) (.bad "mark") (fun _ _ _ => .bad "mark") (fun _ _ => .bad "mark") (fun _ _ _ _ => .bad "mark") (fun _ _ => .bad "mark") (fun _ _ _ _ _ _ => .bad "mark") (r (h.set m .gone)))) ds
def leave (ih : Ev) (rs : List ResultVar) (e : Ex) (s : St) : RC :=
  Ex.casesOn e (runDefers P ih (resultsV P rs s.T) s.ds s.h) (fun _ => .bad "exit") (runDefers P ih (resultsV P rs s.T) s.ds s.h)
def leaveR (ih : Ev) (rs : List ResultVar) (r : R) : RC := R.casesOn r .bad (fun e s => leave P ih rs e s) (fun l => RC.all (mapl (fun p => leave P ih rs p.1 p.2) l))

def evBody (ih : Ev) (fn : Func) (c : Code) (args : List V) (h : H) : RC :=
  Bool.casesOn (andb (okBody fn c) (Nat.ble (lenl args) fn.ntmps)) (.bad "temporaries") (leaveR P ih fn.results.toList (ih.code c false ⟨setAll args 0 (T0 fn.ntmps), [], h⟩))

variable (ext : FuncId → Option X)
def onlyOne (r : RC) : RC := RC.casesOn r .bad (fun v h => .one v h) (fun _ => .bad "many")
def evFn (ih : Ev) (f : FuncId) (args : List V) (h : H) : RC :=
  Option.casesOn (ext f) (Option.casesOn (funcOf P f) (.bad "no function") (fun p => evBody P ih p.1 p.2 args h)) (fun x => onlyOne (evX x args h))

/-! ### a call in the part of memory that it reaches -/

def sIds (x : S) : List Nat :=
  S.casesOn x (fun _ => []) (fun _ _ => []) (fun _ => []) [] (fun i _ => [i]) [] (fun i _ _ _ => [i]) [] (fun i => [i]) [] (fun _ a b => app a b) (fun l => [l]) [] (fun _ m => [m])
def lIds (l : List S) : List Nat := List.rec [] (fun x _ y => app (sIds x) y) l
def uIds (u : U) : List Nat := U.casesOn u sIds lIds
def vIds (v : V) : List Nat := V.casesOn v [] uIds (fun l => List.rec [] (fun x _ y => app (uIds x) y) l)
def oIds (o : O) : List Nat :=
  O.casesOn o [] (fun _ cs _ => lIds cs) (fun es _ => List.rec [] (fun e _ y => app (uIds e.k) (app (uIds e.v) y)) es)
    (fun m _ _ _ => [m]) (fun _ _ => []) (fun _ _ _ _ _ _ => []) []
def sameE (a b : E) : Bool := andb (sameU a.k b.k) (andb (sameU a.v b.v) (Nat.beq a.born b.born))
def sameO (a b : O) : Bool :=
  O.casesOn a false (fun e cs f => oRow b false fun e' cs' f' => andb (Nat.beq e e') (andb (eqB f f') (eqL sameS cs cs')))
    (fun es c => oMap b false fun es' c' => andb (Nat.beq c c') (eqL sameE es es')) (fun _ _ _ _ => false) (fun _ _ => false) (fun _ _ _ _ _ _ => false) false

def hasId (l : List (Nat × O)) (i : Nat) : Bool := anyl (fun p => Nat.beq p.1 i) l
/-- what is reached from some places: each with its object, in one order -/
def reach (h : H) (n : Nat) : List Nat → List (Nat × O) → List (Nat × O) :=
  Nat.rec (fun _ acc => acc) (fun _ r todo acc => List.casesOn todo acc (fun i todo => Bool.casesOn (hasId acc i)
    (Bool.casesOn (isGone (h.get i)) (r (app (oIds (h.get i)) todo) (app acc [(i, h.get i)])) (r todo acc)) (r todo acc))) n
def overlay (l : List (Nat × O)) (h : H) : H := List.rec h (fun p _ r => r.set p.1 p.2) l
def sameP (x y : Nat × O) : Bool := andb (Nat.beq x.1 y.1) (sameO x.2 y.2)
def idsOf (l : List V) : List Nat := List.rec [] (fun x _ y => app (vIds x) y) l
def H0 (n : Nat) : H := ⟨Tr.full .gone hdepth, n⟩
def maxN (a b : Nat) : Nat := Bool.casesOn (Nat.ble a b) a b
def endOf (v : V) (olds : List Nat) (h : H) : List (Nat × O) := reach h 1000 (app (vIds v) olds) []
def clear (l : List Nat) (h : H) : H := List.rec h (fun i _ r => r.set i .gone) l
def okIds (l : List (Nat × O)) : Bool := alll (fun p => Nat.blt p.1 most) l
def mergeWith (h : H) (olds : List Nat) (v : V) (N : Nat) (E : List (Nat × O)) (rest : List (V × H)) : RC :=
  Bool.casesOn (andb (andb (okIds E) (Nat.ble N most)) (alll (fun q => andb (Nat.ble q.2.n N) (andb (sameV q.1 v) (eqL sameP (endOf q.1 olds q.2) E))) rest)) (.bad "unlike ends")
    (.one v (overlay E ⟨(clear olds h).t, N⟩))
def mergeEnds (h : H) (olds : List Nat) (l : List (V × H)) : RC :=
  List.casesOn l (.bad "no end") (fun p rest => forceN (List.rec p.2.n (fun q _ r => maxN q.2.n r) rest) (.bad "force") fun N => mergeWith h olds p.1 N (endOf p.1 olds p.2) (p :: rest))
def evLocal (call : List V → H → RC) (args : List V) (h : H) (r : List (Nat × O)) : RC :=
  Bool.casesOn (okIds r) (.bad "ids") (RC.casesOn (call args (overlay r (H0 h.n))) .bad (fun v h' => mergeEnds h (mapl (fun p => p.1) r) [(v, h')]) (fun l => mergeEnds h (mapl (fun p => p.1) r) l))

variable (loc : FuncId → Bool)
def setParams (ps : List Tmp) : List V → Tr V → Tr V := List.rec (fun _ T => T) (fun p _ r vs T => List.casesOn vs T (fun v vs => r vs (T.set v (tpath p)))) ps

def rdEnd (l : Nat) (r : R) : RC :=
  R.casesOn r .bad (fun e s => Ex.casesOn e (oLoop (s.h.get l) (.bad "round") fun _ T ps a b d => .one (bool true) (s.h.set l (.loop false T ps a b d))) (fun _ => .bad "jump") (.bad "jump")) (fun _ => .bad "many in a round")
def rdBody (ih : Ev) (l : Nat) (body : Code) (r : R) : RC :=
  R.casesOn r .bad (fun e s => Ex.casesOn e (oLoop (s.h.get l) (.bad "round") fun busy T ps a b d => Bool.casesOn busy (List.casesOn s.ds (rdEnd l (ih.code body true ⟨s.T, [], s.h.set l (.loop true T ps a b d)⟩)) (fun _ _ => .bad "round")) (.bad "round"))
    (fun _ => .bad "jump") (.bad "jump")) (fun _ => .bad "many in a round")
def evYield (ih : Ev) (l : Nat) (args : List V) (h : H) : RC :=
  oLoop (h.get l) (.bad "yield") fun busy T ps a b _ => Bool.casesOn busy (Bool.casesOn (Nat.beq (lenl ps) (lenl args)) (.bad "yield") (rdBody ih l b (ih.code a true ⟨setParams ps args T, [], h⟩))) (.bad "yield")

def evFunc (ih : Ev) (f : FuncId) (args : List V) (h : H) : RC :=
  Bool.casesOn (loc f) (evFn P ext ih f args h) (evLocal (evFn P ext ih f) args h (reach h 1000 (idsOf args) []))
def evCall (ih : Ev) (f : V) (args : List V) (h : H) : RC :=
  vS f (.bad "call") fun f => sFn f (.bad "call") (fun f a b => evFunc P ext loc ih f (app (mapl capV a) (app args (mapl capV b))) h) (fun l => evYield ih l args h)

def run (n : Nat) : Ev := Nat.rec ⟨fun _ _ _ => .bad "fuel", fun _ _ _ => .bad "fuel"⟩ (fun _ ih => ⟨evCode P ih, evCall P ext loc ih⟩) n

end
end
end Go.Sx
