/-
  SOUNDNESS OF THE ABSTRACT INTERPRETER, twenty-sixth part: what an operation looks at; the plan of a region that draws.
-/
import Derived.Test.YtechbpephhdmpaaGreatDoorB25
namespace Go.Sx

section
variable {P : Program} {h : H} {T T' : Tr V}

/-- two frames that agree on some temporaries -/
def Agree (T T' : Tr V) (l : List Tmp) : Prop := ∀ t ∈ l, T.get .any (tpath t) = T'.get .any (tpath t)

theorem Agree.sub {l l' : List Tmp} (ha : Agree T T' l) (hs : ∀ t ∈ l', t ∈ l) : Agree T T' l' := fun t ht => ha t (hs t ht)

theorem ev_congr {x : Operand} (ha : Agree T T' (tmpOf x)) : ev T x = ev T' x := by
  cases x with
  | tmp t => exact ha t (by simp [tmpOf])
  | const v => rfl
  | global g => rfl
  | func f => rfl
theorem evL_congr {l : List Operand} (ha : Agree T T' (l.flatMap tmpOf)) : l.map (ev T) = l.map (ev T') := by
  apply List.map_congr_left
  intro x hx
  exact ev_congr (ha.sub fun t ht => List.mem_flatMap.2 ⟨x, hx, ht⟩)
theorem evs_congr {a : Array Operand} (ha : Agree T T' (a.toList.flatMap tmpOf)) : evs T a = evs T' a := by
  unfold evs
  rw [mapl_eq, mapl_eq]
  exact evL_congr ha
theorem evp_congr {a : Array (Nat × Operand)} (ha : Agree T T' (a.toList.flatMap fun (_, x) => tmpOf x)) : evp T a = evp T' a := by
  unfold evp
  rw [mapl_eq, mapl_eq]
  apply List.map_congr_left
  intro x hx
  rw [ev_congr (T := T) (T' := T') (ha.sub fun t ht => List.mem_flatMap.2 ⟨x, hx, ht⟩)]
theorem evo_congr {x : Option Operand} (ha : Agree T T' (x.toList.flatMap tmpOf)) : evo T x = evo T' x := by
  cases x with
  | none => rfl
  | some x => exact congrArg some (ev_congr (ha.sub fun t ht => by simpa using ht))

theorem opV_congr {o : Op} (ha : Agree T T' (opTmps o)) : opV P T h o = opV P T' h o := by
  have k1 : ∀ x : Operand, (∀ t ∈ tmpOf x, t ∈ opTmps o) → ev T x = ev T' x := fun x hx => ev_congr (ha.sub hx)
  have k2 : ∀ a : Array Operand, (∀ t ∈ a.toList.flatMap tmpOf, t ∈ opTmps o) → evs T a = evs T' a := fun x hx => evs_congr (ha.sub hx)
  have k3 : ∀ a : Array (Nat × Operand), (∀ t ∈ a.toList.flatMap (fun (_, x) => tmpOf x), t ∈ opTmps o) → evp T a = evp T' a := fun x hx => evp_congr (ha.sub hx)
  have k4 : ∀ x : Option Operand, (∀ t ∈ x.toList.flatMap tmpOf, t ∈ opTmps o) → evo T x = evo T' x := fun x hx => evo_congr (ha.sub hx)
  cases o <;> simp only [opTmps, Op.operands] at k1 k2 k3 k4 <;> first
    | rfl
    | skip
  case move x => simp only [opV]; rw [k1 x (by simp)]
  case assign x => simp only [opV]; rw [k1 x (by simp)]
  case pick c x y => simp only [opV]; rw [k1 c (by simp +contextual), k1 x (by simp +contextual), k1 y (by simp +contextual)]
  case box t x => simp only [opV]; rw [k1 x (by simp)]
  case build t ps => simp only [opV]; rw [k3 ps (by simp)]
  case buildSlice t n ps => simp only [opV]; rw [k3 ps (by simp)]
  case load t x => simp only [opV]; rw [k1 x (by simp)]
  case store t x y => simp only [opV]; rw [k1 x (by simp +contextual), k1 y (by simp +contextual)]
  case nilCheck x => simp only [opV]; rw [k1 x (by simp)]
  case binOp op t x y u => simp only [opV]; rw [k1 x (by simp +contextual), k1 y (by simp +contextual)]
  case unOp op t x => simp only [opV]; rw [k1 x (by simp)]
  case convert s d x => simp only [opV]; rw [k1 x (by simp)]
  case makeInterface t x => simp only [opV]; rw [k1 x (by simp)]
  case makeFunc f x y =>
    have e1 := k2 x (by simp +contextual)
    have e2 := k2 y (by simp +contextual)
    simp only [opV]
    cases f <;> simp only [makeFunc]
    rw [e1, e2]
  case makeSlice t x y => simp only [opV]; rw [k1 x (by simp +contextual), k1 y (by simp +contextual)]
  case slice t x lo hi mx => simp only [opV]; rw [k1 x (by simp +contextual), k4 lo (by simp +contextual), k4 hi (by simp +contextual), k4 mx (by simp +contextual)]
  case fieldAddr s x f => simp only [opV]; rw [k1 x (by simp)]
  case field s x f => simp only [opV]; rw [k1 x (by simp)]
  case indexAddr t x y => simp only [opV]; rw [k1 x (by simp +contextual), k1 y (by simp +contextual)]
  case index t x y => simp only [opV]; rw [k1 x (by simp +contextual), k1 y (by simp +contextual)]
  case lookup t x y ok => simp only [opV]; rw [k1 x (by simp +contextual), k1 y (by simp +contextual)]
  case mapUpdate t x y z => simp only [opV]; rw [k1 x (by simp +contextual), k1 y (by simp +contextual), k1 z (by simp +contextual)]
  case range t x => simp only [opV]; rw [k1 x (by simp)]
  case next x b => simp only [opV]; rw [k1 x (by simp)]
  case entry x => simp only [opV]; rw [k1 x (by simp)]
  case typeAssert x s t ok => simp only [opV]; rw [k1 x (by simp)]
  case extract x i => simp only [opV]; rw [k1 x (by simp)]
  case call c =>
    obtain ⟨callee, args, ats⟩ := c
    cases callee with
    | value f =>
      simp only [opV, callOp]
      rw [k1 f (by simp +contextual [Call.operands]), k2 args (by simp +contextual [Call.operands])]
    | invoke r m => rfl
    | builtin b => simp only [opV, callOp]; rw [k2 args (by simp +contextual [Call.operands])]
  case defer c =>
    obtain ⟨callee, args, ats⟩ := c
    cases callee with
    | value f =>
      simp only [opV, deferOp]
      rw [k1 f (by simp +contextual [Call.operands]), k2 args (by simp +contextual [Call.operands])]
    | invoke r m => rfl
    | builtin b => rfl

theorem wanted_congr {ops : List Oper} {o : Oper} (ha : Agree T T' (ownTmps ops o)) : wanted ops T o = wanted ops T' o := by
  unfold wanted
  unfold ownTmps at ha
  cases hg : o.guard with
  | none => rfl
  | some p =>
    obtain ⟨j, want⟩ := p
    rw [hg] at ha
    simp only
    cases hj : nth? ops j with
    | none => rfl
    | some g =>
      simp only [hj] at ha
      simp only [guardBy]
      cases hd : g.dst with
      | none => rfl
      | some t =>
        rw [hd] at ha
        simp only
        rw [ha t (by simp)]
theorem opV_own {ops : List Oper} {o : Oper} (ha : Agree T T' (ownTmps ops o)) : opV P T h o.op = opV P T' h o.op :=
  opV_congr (ha.sub fun _ ht => List.mem_append_left _ ht)

end

/-! ### masks -/

theorem testBit_bitsOf {l : List Nat} {t : Nat} : Nat.testBit (bitsOf l) t = true ↔ t ∈ l := by
  induction l with
  | nil => simp [bitsOf]
  | cons x l ih =>
    have e : bitsOf (x :: l) = bitsOf l ||| 2 ^ x := rfl
    rw [e, Nat.testBit_or, Bool.or_eq_true, ih, Nat.testBit_two_pow, List.mem_cons, decide_eq_true_eq]
    constructor
    · rintro (h | h)
      · exact .inr h
      · exact .inl h.symm
    · rintro (h | h)
      · exact .inr h.symm
      · exact .inl h

theorem testBit_maskOf {acc : List Nat} {o : Oper} {x : Nat} : (maskOf acc o).testBit x = true ↔
    ∃ e ∈ o.after, Region.binds .any e = true ∧ (e.on = x ∨ (acc.getD e.on 0).testBit x = true) := by
  unfold maskOf
  have key : ∀ (l : List Edge) (s : Nat), (l.foldl (fun s e => if Region.binds .any e then s ||| 2 ^ e.on ||| acc.getD e.on 0 else s) s).testBit x = true ↔
      s.testBit x = true ∨ ∃ e ∈ l, Region.binds .any e = true ∧ (e.on = x ∨ (acc.getD e.on 0).testBit x = true) := by
    intro l
    induction l with
    | nil => intro s; simp
    | cons e l ih =>
      intro s
      rw [List.foldl_cons, ih]
      by_cases hb : Region.binds .any e = true
      · rw [if_pos hb, Nat.testBit_or, Nat.testBit_or, Bool.or_eq_true, Bool.or_eq_true, Nat.testBit_two_pow, decide_eq_true_eq]
        simp only [List.mem_cons, exists_eq_or_imp]
        constructor
        · rintro (((h1 | h1) | h1) | h1)
          · exact .inl h1
          · exact .inr (.inl ⟨hb, .inl h1⟩)
          · exact .inr (.inl ⟨hb, .inr h1⟩)
          · exact .inr (.inr h1)
        · rintro (h1 | ⟨_, h1 | h1⟩ | h1)
          · exact .inl (.inl (.inl h1))
          · exact .inl (.inl (.inr h1))
          · exact .inl (.inr h1)
          · exact .inr h1
      · rw [if_neg hb]
        simp only [List.mem_cons, exists_eq_or_imp]
        constructor
        · rintro (h1 | h1)
          · exact .inl h1
          · exact .inr (.inr h1)
        · rintro (h1 | ⟨h0, _⟩ | h1)
          · exact .inl h1
          · exact absurd h0 hb
          · exact .inr h1
  rw [key]
  simp

theorem masks_spec (ops : List Oper) : (masks ops).length = ops.length ∧ ∀ i o, ops[i]? = some o → (masks ops)[i]? = some (maskOf ((masks ops).take i) o) := by
  have key : ∀ (l : List Oper) (acc : List Nat), ∃ r, l.foldl (fun acc o => acc ++ [maskOf acc o]) acc = acc ++ r ∧ r.length = l.length ∧ ∀ i o, l[i]? = some o → r[i]? = some (maskOf (acc ++ r.take i) o) := by
    intro l
    induction l with
    | nil => intro acc; exact ⟨[], by simp, rfl, fun i o h => by simp at h⟩
    | cons x l ih =>
      intro acc
      obtain ⟨r, h1, h2, h3⟩ := ih (acc ++ [maskOf acc x])
      refine ⟨maskOf acc x :: r, by rw [List.foldl_cons, h1]; simp, by simp [h2], fun i o hi => ?_⟩
      cases i with
      | zero => simp at hi; subst hi; simp
      | succ i =>
        simp at hi
        have := h3 i o hi
        simp [this]
  obtain ⟨r, h1, h2, h3⟩ := key ops []
  have e : masks ops = r := by unfold masks; rw [h1]; simp
  rw [e]
  exact ⟨h2, fun i o hi => by simpa using h3 i o hi⟩

/-- an operation of the plan is one of the region -/
structure PlanOk (P : Program) (ops : List Oper) (y : PO) : Prop where
  o : ops[y.i]? = some y.o
  m : (masks ops)[y.i]? = some y.m
  c : y.c = cls P y.o.op
  q : y.q = qo y.o
  own : y.own = bitsOf (ownTmps ops y.o)

theorem plan_ok {P : Program} {ops : List Oper} {y : PO} (hy : y ∈ plan P ops) : PlanOk P ops y := by
  unfold plan at hy
  obtain ⟨⟨⟨o, i⟩, m⟩, hp, rfl⟩ := List.mem_map.1 hy
  obtain ⟨j, hj, hjj⟩ := List.mem_iff_getElem.1 hp
  rw [List.getElem_zip] at hjj
  rw [List.length_zip, List.length_zipIdx] at hj
  have h1 : ops.zipIdx[j]'(by rw [List.length_zipIdx]; omega) = (o, i) := congrArg (·.1) hjj
  have h2 : (masks ops)[j]'(by omega) = m := congrArg (·.2) hjj
  rw [List.getElem_zipIdx] at h1
  have h3 : ops[j]'(by omega) = o := congrArg (·.1) h1
  have h4 : 0 + j = i := congrArg (·.2) h1
  have h5 : j = i := by omega
  subst h5
  refine ⟨?_, ?_, rfl, rfl, rfl⟩
  · show ops[j]? = some o
    rw [List.getElem?_eq_getElem (by omega), h3]
  · show (masks ops)[j]? = some m
    rw [List.getElem?_eq_getElem (by omega), h2]

theorem revTo_eq {α : Type} (a b : List α) : revTo a b = a.reverse ++ b := by
  induction a generalizing b with
  | nil => rfl
  | cons x a ih => exact (ih (x :: b)).trans (by simp)

theorem sortW_mem (fuel : Nat) : ∀ (l : List PO) (hm : Nat) (held : List PO) (y : PO), y ∈ sortW fuel l hm held → y ∈ l ∨ y ∈ held := by
  induction fuel with
  | zero => intro l hm held y hy; cases hy
  | succ fuel ih =>
    intro l hm held y hy
    cases l with
    | nil =>
      have hy' : y ∈ (List.casesOn (revTo held []) [] (fun w rest => w :: sortW fuel rest 0 []) : List PO) := hy
      rw [revTo_eq, List.append_nil] at hy'
      cases hr : held.reverse with
      | nil => rw [hr] at hy'; cases hy'
      | cons w rest =>
        rw [hr] at hy'
        have hy2 : y ∈ w :: sortW fuel rest 0 [] := hy'
        right
        rw [← List.mem_reverse, hr]
        rcases List.mem_cons.1 hy2 with rfl | h1
        · simp
        · rcases ih _ _ _ _ h1 with h2 | h2
          · exact List.mem_cons_of_mem _ h2
          · cases h2
    | cons o l =>
      have hy' : y ∈ (Bool.casesOn (orb (isW o.c) (notb (Nat.beq (Nat.land o.m hm) 0))) (o :: sortW fuel l hm held) (sortW fuel l (Nat.lor hm (Nat.pow 2 o.i)) (o :: held)) : List PO) := hy
      cases hb : orb (isW o.c) (notb (Nat.beq (Nat.land o.m hm) 0)) with
      | false =>
        rw [hb] at hy'
        have hy2 : y ∈ o :: sortW fuel l hm held := hy'
        rcases List.mem_cons.1 hy2 with rfl | h1
        · exact .inl (by simp)
        · rcases ih _ _ _ _ h1 with h2 | h2
          · exact .inl (List.mem_cons_of_mem _ h2)
          · exact .inr h2
      | true =>
        rw [hb] at hy'
        have hy2 : y ∈ sortW fuel l (Nat.lor hm (Nat.pow 2 o.i)) (o :: held) := hy'
        rcases ih _ _ _ _ hy2 with h2 | h2
        · exact .inl (List.mem_cons_of_mem _ h2)
        · rcases List.mem_cons.1 h2 with rfl | h3
          · exact .inl (by simp)
          · exact .inr h3

/-! ### the plan's checks -/

theorem okBefore_spec {x y : PO} (h : okBefore x y = true) : (∀ t, y.o.dst = some t → x.own.testBit t = false ∧ x.o.dst ≠ some t) ∧
    (y.m.testBit x.i = true ∨ (isW x.c = false ∧ ∀ t, x.o.dst = some t → y.own.testBit t = false)) := by
  unfold okBefore at h
  rw [andb_eq, orb_eq, andb_eq, notb_eq, Bool.and_eq_true, Bool.or_eq_true, Bool.and_eq_true] at h
  obtain ⟨h1, h2⟩ := h
  refine ⟨fun t ht => ?_, ?_⟩
  · rw [ht] at h1
    have h3 : (!Nat.testBit (x.own ||| dstBit x.o.dst) t) = true := by rw [← notb_eq]; exact h1
    rw [Nat.testBit_or, Bool.not_eq_true', Bool.or_eq_false_iff] at h3
    refine ⟨h3.1, fun hx => ?_⟩
    rw [hx] at h3
    have h4 : (2 ^ t).testBit t = false := h3.2
    rw [Nat.testBit_two_pow_self] at h4
    cases h4
  · rcases h2 with h2 | ⟨h2, h3⟩
    · exact .inl h2
    · refine .inr ⟨by simpa using h2, fun t ht => ?_⟩
      rw [ht] at h3
      have h4 : (!Nat.testBit y.own t) = true := by rw [← notb_eq]; exact h3
      simpa using h4

/-- pairwise, each with those behind it -/
def Later (R : PO → PO → Prop) : List PO → Prop
  | [] => True
  | x :: xs => (∀ y ∈ xs, R x y) ∧ Later R xs

theorem okPairs_spec {l : List PO} (h : okPairs l = true) : Later (fun x y => okBefore x y = true) l ∧ ∀ y ∈ l, ∀ t, y.o.dst = some t → y.own.testBit t = false := by
  induction l with
  | nil => exact ⟨trivial, fun y hy => by cases hy⟩
  | cons x l ih =>
    have h' : andb (dstNot x.o.dst x.own) (andb (alll (okBefore x) l) (okPairs l)) = true := h
    rw [andb_eq, andb_eq, Bool.and_eq_true, Bool.and_eq_true, alll_eq, List.all_eq_true] at h'
    obtain ⟨h1, h2, h3⟩ := h'
    obtain ⟨i1, i2⟩ := ih h3
    refine ⟨⟨h2, i1⟩, fun y hy => ?_⟩
    rcases List.mem_cons.1 hy with rfl | hy
    · intro t ht
      rw [ht] at h1
      have h4 : (!Nat.testBit y.own t) = true := by rw [← notb_eq]; exact h1
      simpa using h4
    · exact i2 y hy

theorem Later.imp {R R' : PO → PO → Prop} {l : List PO} (h : Later R l) (hr : ∀ x y, R x y → R' x y) : Later R' l := by
  induction l with
  | nil => trivial
  | cons x l ih => exact ⟨fun y hy => hr _ _ (h.1 y hy), ih h.2⟩
theorem Later.and {R R' : PO → PO → Prop} {l : List PO} (h : Later R l) (h' : Later R' l) : Later (fun x y => R x y ∧ R' x y) l := by
  induction l with
  | nil => trivial
  | cons x l ih => exact ⟨fun y hy => ⟨h.1 y hy, h'.1 y hy⟩, ih h.2 h'.2⟩
theorem Later.pair {R : PO → PO → Prop} {l : List PO} (h : Later R l) {x y : PO} (hx : x ∈ l) (hy : y ∈ l) : x = y ∨ R x y ∨ R y x := by
  induction l with
  | nil => cases hx
  | cons z l ih =>
    rcases List.mem_cons.1 hx with e1 | hx' <;> rcases List.mem_cons.1 hy with e2 | hy'
    · exact .inl (e1.trans e2.symm)
    · exact .inr (.inl (e1 ▸ h.1 y hy'))
    · exact .inr (.inr (e2 ▸ h.1 x hx'))
    · exact ih h.2 hx' hy'

/-- the plan from some place on: what is listed before it, as bits -/
def Seq (acc : Nat) : List PO → Prop
  | [] => True
  | y :: l => acc.testBit y.i = false ∧ (∀ x, y.m.testBit x = true → acc.testBit x = true) ∧ Seq (acc ||| 2 ^ y.i) l

theorem okSeq_spec {full : Nat} {l : List PO} : ∀ {acc : Nat}, okSeq full l acc = true → Seq acc l ∧ ∀ x, full.testBit x = true → acc.testBit x = true ∨ ∃ y ∈ l, y.i = x := by
  induction l with
  | nil =>
    intro acc h
    have h' : Nat.beq acc full = true := h
    rw [Nat.beq_eq] at h'
    subst h'
    exact ⟨trivial, fun x hx => .inl hx⟩
  | cons y l ih =>
    intro acc h
    have h' : andb (notb (Nat.testBit acc y.i)) (andb (Nat.beq (Nat.land y.m acc) y.m) (okSeq full l (Nat.lor acc (Nat.pow 2 y.i)))) = true := h
    rw [andb_eq, andb_eq, notb_eq, Bool.and_eq_true, Bool.and_eq_true, Nat.beq_eq] at h'
    obtain ⟨h1, h2, h3⟩ := h'
    obtain ⟨i1, i2⟩ := ih h3
    refine ⟨⟨by simpa using h1, fun x hx => ?_, i1⟩, fun x hx => ?_⟩
    · have h2' : y.m &&& acc = y.m := h2
      rw [← h2', Nat.testBit_and, Bool.and_eq_true] at hx
      exact hx.2
    · rcases i2 x hx with h4 | ⟨z, hz, he⟩
      · have h4' : (acc ||| 2 ^ y.i).testBit x = true := h4
        rw [Nat.testBit_or, Bool.or_eq_true, Nat.testBit_two_pow, decide_eq_true_eq] at h4'
        rcases h4' with h5 | h5
        · exact .inl h5
        · exact .inr ⟨y, by simp, h5⟩
      · exact .inr ⟨z, List.mem_cons_of_mem _ hz, he⟩

theorem Seq.not {l : List PO} : ∀ {acc : Nat}, Seq acc l → ∀ y ∈ l, acc.testBit y.i = false := by
  induction l with
  | nil => intro acc _ y hy; cases hy
  | cons x l ih =>
    intro acc h y hy
    rcases List.mem_cons.1 hy with rfl | hy
    · exact h.1
    · have := ih h.2.2 y hy
      rw [Nat.testBit_or, Bool.or_eq_false_iff] at this
      exact this.1
theorem Seq.later {l : List PO} : ∀ {acc : Nat}, Seq acc l → Later (fun x y => x.i ≠ y.i) l := by
  induction l with
  | nil => intro acc _; trivial
  | cons x l ih =>
    intro acc h
    refine ⟨fun y hy he => ?_, ih h.2.2⟩
    have := Seq.not h.2.2 y hy
    rw [Nat.testBit_or, Bool.or_eq_false_iff, ← he, Nat.testBit_two_pow_self] at this
    cases this.2
/-- what is not listed yet has a first, which waits for nothing any more -/
theorem Seq.first {l : List PO} {lm : Nat} : ∀ {acc : Nat}, Seq acc l → (∀ x, acc.testBit x = true → lm.testBit x = true) →
    (∀ y ∈ l, lm.testBit y.i = true) ∨ ∃ y ∈ l, lm.testBit y.i = false ∧ ∀ x, y.m.testBit x = true → lm.testBit x = true := by
  induction l with
  | nil => intro acc _ _; exact .inl fun y hy => by cases hy
  | cons x l ih =>
    intro acc h hacc
    cases hx : lm.testBit x.i with
    | false => exact .inr ⟨x, by simp, hx, fun z hz => hacc z (h.2.1 z hz)⟩
    | true =>
      rcases ih h.2.2 (fun z hz => by
        rw [Nat.testBit_or, Bool.or_eq_true, Nat.testBit_two_pow, decide_eq_true_eq] at hz
        rcases hz with hz | rfl
        · exact hacc z hz
        · exact hx) with h1 | ⟨y, h1, h2⟩
      · exact .inl fun y hy => by
          rcases List.mem_cons.1 hy with rfl | hy
          · exact hx
          · exact h1 y hy
      · exact .inr ⟨y, List.mem_cons_of_mem _ h1, h2⟩

theorem okDraw_spec {N : Nat} {l : List PO} (h : okDraw N l = true) : l.length ≤ N ∧ Seq 0 l ∧ (∀ i, i < N → ∃ y ∈ l, y.i = i) ∧ Later (fun x y => okBefore x y = true ∧ x.i ≠ y.i) l ∧ ∀ y ∈ l, ∀ t, y.o.dst = some t → y.own.testBit t = false := by
  unfold okDraw at h
  rw [andb_eq, andb_eq, Bool.and_eq_true, Bool.and_eq_true, lenl_eq] at h
  obtain ⟨h1, h2, h3⟩ := h
  obtain ⟨g1, g2⟩ := okSeq_spec h2
  obtain ⟨g3, g4⟩ := okPairs_spec h3
  refine ⟨Nat.le_of_ble_eq_true h1, g1, fun i hi => ?_, g3.and g1.later, g4⟩
  have hb : (Nat.sub (Nat.pow 2 N) 1).testBit i = true := by
    show (2 ^ N - 1).testBit i = true
    rw [Nat.testBit_two_pow_sub_one, decide_eq_true_eq]
    exact hi
  rcases g2 i hb with h4 | h4
  · simp at h4
  · exact h4

end Go.Sx
