/-
  SOUNDNESS OF THE ABSTRACT INTERPRETER, fifth part: parts of structs and arrays, comparing.
-/
import Derived.Test.YtechbpephhdmpaaGreatDoorB4
import Derived.Laws.StructEq
namespace Go.Sx

section
variable {P : Program} {w : World} {μ : Mu}

/-! ### parts -/

theorem All2.sub {X : List S} {cs : List Value} (h : All2 (SRel μ) X cs) {o n : Nat} {c : List S} (hc : sub? X o n = some c) : All2 (SRel μ) c ((cs.drop o).take n) ∧ c.length = n := by
  obtain ⟨rfl, hn⟩ := sub?_some hc
  refine ⟨(h.drop o).take n, ?_⟩
  rcases hn with rfl | hn
  · simp
  · simp; omega

theorem partU_ok {t : TypeId} {X : List S} {cs : Array Value} {o : Nat} {u : U} (h : partU P t X o = some u) (hr : All2 (SRel μ) X cs.toList) :
    ∃ v, (part t cs o).run P w = .ok v w ∧ URel μ u v := by
  obtain ⟨a, h1, h2⟩ := ap_some h
  obtain ⟨n, h3, h4⟩ := ap_some h2
  unfold part
  cases a with
  | false =>
    obtain ⟨x, h5, h6⟩ := ap_some (o := nth? X o) (f := fun x => some (U.s x)) h4
    cases h6
    rw [nth?_eq] at h5
    obtain ⟨v, h7, h8⟩ := hr.get h5
    refine ⟨v, ?_, h8⟩
    have h7' : cs[o]? = some v := by simpa using h7
    simp [run_isAgg' h1, h7']
  | true =>
    obtain ⟨c, h5, h6⟩ := ap_some (o := sub? X o n) (f := fun c => some (U.agg c)) h4
    cases h6
    refine ⟨.agg (cs.extract o (o + n)), by simp [run_isAgg' h1, run_sizeOf' h3], _, rfl, ?_⟩
    have := (hr.sub h5).1
    simpa [Array.toList_extract, List.extract_eq_take_drop] using this

theorem part?_ok {t : TypeId} {X : List S} {cs : Array Value} {o : Nat} {r : V} (h : part? P t X o = some r) (hr : All2 (SRel μ) X cs.toList) :
    ∃ v, (part t cs o).run P w = .ok v w ∧ VRel μ r v := by
  obtain ⟨a, h1, h2⟩ := ap_some h
  obtain ⟨n, h3, h4⟩ := ap_some h2
  cases a with
  | false =>
    obtain ⟨x, h5, h6⟩ := ap_some (o := nth? X o) (f := fun x => some (one x)) h4
    cases h6
    have hu : partU P t X o = some (.s x) := by unfold partU; rw [h1, h3]; show ap (nth? X o) _ = _; rw [h5]; rfl
    exact partU_ok hu hr
  | true =>
    obtain ⟨c, h5, h6⟩ := ap_some (o := sub? X o n) (f := fun c => some (agg c)) h4
    cases h6
    have hu : partU P t X o = some (.agg c) := by unfold partU; rw [h1, h3]; show ap (sub? X o n) _ = _; rw [h5]; rfl
    exact partU_ok hu hr

/-! ### comparing -/

theorem sameAddr_block (a b : Addr) (h : a.block = b.block) : (sameAddr a b).run P w = .ok (a == b) w := by
  simp [sameAddr, h]

theorem eqPtr_ok {t : TypeId} {i o : Nat} {y : S} {b : Bool} {d : Nat} (h : eqPtr P t i o y = some b) {m : BI} (hm : μ i = some m) {yv : Value} (hy : SRel μ y yv) :
    (Op.equalIn (d + 1) t (ptrV m o) yv).run P w = .ok b w := by
  rcases sPtr_ne' h (by simp) with ⟨rfl, h⟩ | ⟨j, p, rfl, h⟩
  · obtain ⟨h1, h2⟩ := gd_some h
    cases h2
    obtain ⟨e, he⟩ := isPtr_true h1
    cases hy
    simp [Op.equalIn, run_underlying' he, ptrV]
  · obtain ⟨e, h1, h2⟩ := ap_some h
    obtain ⟨n, h3, h4⟩ := ap_some h2
    cases n with
    | zero => cases h4
    | succ n =>
      obtain ⟨h5, h6⟩ := gd_some (b := Nat.beq i j) (x := some (Nat.beq o p)) h4
      have hij : i = j := by rw [Nat.beq_eq] at h5; exact h5
      subst hij
      cases h6
      obtain ⟨m', hm', rfl⟩ := hy
      rw [hm] at hm'; cases hm'
      have hne : ¬ ((n + 1 : Nat) = 0) := by omega
      simp only [Op.equalIn, Sem.run_bind, run_underlying' (ptrTo_some h1), Result.andThen_ok, ptrV, run_sizeOf' h3]
      simp only [ne_eq, hne, not_false_eq_true, if_true]
      have hsa := sameAddr_block (P := P) (w := w) ⟨m.b, o, none⟩ ⟨m.b, p, none⟩ rfl
      rw [hsa]
      congr 1
      rw [Bool.eq_iff_iff, beq_iff_eq, Nat.beq_eq]
      simp

theorem eqS_ok {t : TypeId} {x y : S} {b : Bool} {d : Nat} (h : eqS P t x y = some b) {xv yv : Value} (hx : SRel μ x xv) (hy : SRel μ y yv) :
    (Op.equalIn (d + 1) t xv yv).run P w = .ok b w := by
  cases x <;> first
    | (exfalso; cases h; done)
    | skip
  case bool a =>
    obtain ⟨h1, h2⟩ := gd_some (b := isBoolT P t) h
    obtain ⟨c, rfl, h3⟩ := sBool_ne h2 (by simp)
    cases h3; cases hx; cases hy
    rw [eqB_eq]
    exact run_equalIn_bool' w d t a c (isBoolT_true h1)
  case int k a =>
    obtain ⟨h1, h2⟩ := gd_some (b := isIntT P t) h
    obtain ⟨l, c, rfl, h3⟩ := sInt_ne h2 (by simp)
    obtain ⟨h4, h5⟩ := gd_some h3
    obtain rfl := eqK_true h4
    cases h5; cases hx; cases hy
    obtain ⟨k', hk⟩ := isIntT_true h1
    rw [eqI_eq]
    exact run_equalIn_int w d t k k' a c hk
  case str a =>
    obtain ⟨h1, h2⟩ := gd_some (b := isStr P t) h
    obtain ⟨c, rfl, h3⟩ := sStr_ne h2 (by simp)
    cases h3; cases hx; cases hy
    rw [strV_eq, strV_eq, run_equalIn_string w d t _ _ (isStr_true h1), bytesOf_toList, bytesOf_toList, strEq_eq]
  case nilp =>
    rcases sPtr_ne' (n := gd (isPtr P t) (some true)) h (by simp) with ⟨rfl, h⟩ | ⟨j, p, rfl, h⟩
    · obtain ⟨h1, h2⟩ := gd_some h
      cases h2; cases hx; cases hy
      obtain ⟨e, he⟩ := isPtr_true h1
      simp [Op.equalIn, run_underlying' he]
    · obtain ⟨h1, h2⟩ := gd_some h
      cases h2; cases hx
      obtain ⟨m, _, rfl⟩ := hy
      obtain ⟨e, he⟩ := isPtr_true h1
      simp [Op.equalIn, run_underlying' he, ptrV]
  case ptr i o =>
    obtain ⟨m, hm, rfl⟩ := hx
    exact eqPtr_ok h hm hy
  case nils =>
    rcases sSlc_ne (n := gd (sliceElem P t).isSome (some true)) h (by simp) with ⟨rfl, h⟩ | ⟨j, p, len, c, rfl, h⟩
    · obtain ⟨h1, h2⟩ := gd_some h
      cases h2; cases hx; cases hy
      obtain ⟨e, he⟩ := Option.isSome_iff_exists.1 h1
      simp [Op.equalIn, run_underlying' (sliceElem_some he)]
    · obtain ⟨h1, h2⟩ := gd_some h
      cases h2; cases hx
      obtain ⟨m, a, cap, _, rfl, _⟩ := hy
      obtain ⟨e, he⟩ := Option.isSome_iff_exists.1 h1
      simp [Op.equalIn, run_underlying' (sliceElem_some he)]
  case slc i o len c =>
    rcases sSlc_ne (n := gd (sliceElem P t).isSome (some false)) h (by simp) with ⟨rfl, h⟩ | ⟨j, p, len, c, rfl, h⟩
    · obtain ⟨h1, h2⟩ := gd_some h
      cases h2; cases hy
      obtain ⟨m, a, cap, _, rfl, _⟩ := hx
      obtain ⟨e, he⟩ := Option.isSome_iff_exists.1 h1
      simp [Op.equalIn, run_underlying' (sliceElem_some he)]
    · cases h
  case nilm =>
    rcases sMap_ne (n := gd (mapOf P t).isSome (some true)) h (by simp) with ⟨rfl, h⟩ | ⟨j, rfl, h⟩
    · obtain ⟨h1, h2⟩ := gd_some h
      cases h2; cases hx; cases hy
      obtain ⟨e, he⟩ := Option.isSome_iff_exists.1 h1
      simp [Op.equalIn, run_underlying' (mapOf_some he)]
    · obtain ⟨h1, h2⟩ := gd_some h
      cases h2; cases hx
      obtain ⟨m, _, rfl⟩ := hy
      obtain ⟨e, he⟩ := Option.isSome_iff_exists.1 h1
      simp [Op.equalIn, run_underlying' (mapOf_some he)]
  case map i =>
    rcases sMap_ne (n := gd (mapOf P t).isSome (some false)) h (by simp) with ⟨rfl, h⟩ | ⟨j, rfl, h⟩
    · obtain ⟨h1, h2⟩ := gd_some h
      cases h2; cases hy
      obtain ⟨m, _, rfl⟩ := hx
      obtain ⟨e, he⟩ := Option.isSome_iff_exists.1 h1
      simp [Op.equalIn, run_underlying' (mapOf_some he)]
    · cases h

theorem eqFs_ok {r : TypeId → U → U → Option Bool} {d : Nat}
    (hr : ∀ t x y b xv yv, r t x y = some b → URel μ x xv → URel μ y yv → (Op.equalIn d t xv yv).run P w = .ok b w)
    {X Y : List S} {xs ys : Array Value} (hx : All2 (SRel μ) X xs.toList) (hy : All2 (SRel μ) Y ys.toList) (fs : List Field) {b : Bool} (h : eqFs P r X Y fs = some b) :
    (Op.eqFields d xs ys fs).run P w = .ok b w := by
  induction fs generalizing b with
  | nil => cases h; rfl
  | cons f fs ih =>
    have h' : (Bool.casesOn (decide (f.name = "_"))
      (ap (partU P f.type X f.offset) fun x => ap (partU P f.type Y f.offset) fun y => ap (r f.type x y) fun b => Bool.casesOn b (some false) (eqFs P r X Y fs)) none : Option Bool) = some b := h
    by_cases hn : f.name = "_"
    · rw [decide_eq_true hn] at h'; cases h'
    · rw [decide_eq_false hn] at h'
      obtain ⟨x, h1, h2⟩ := ap_some h'
      obtain ⟨y, h3, h4⟩ := ap_some h2
      obtain ⟨c, h5, h6⟩ := ap_some h4
      obtain ⟨xv, e1, r1⟩ := partU_ok (w := w) h1 hx
      obtain ⟨yv, e2, r2⟩ := partU_ok (w := w) h3 hy
      have e3 := hr _ _ _ _ _ _ h5 r1 r2
      simp only [Op.eqFields, ne_eq, hn, not_false_eq_true, if_true, Sem.run_bind, e1, e2, e3, Result.andThen_ok]
      cases c with
      | false => cases h6; simp
      | true => simpa using ih h6

theorem eqT_ok (d D : Nat) (hd : d ≤ D) : ∀ (t : TypeId) (x y : U) (b : Bool) (xv yv : Value), eqT P d t x y = some b → URel μ x xv → URel μ y yv → (Op.equalIn D t xv yv).run P w = .ok b w := by
  induction d generalizing D with
  | zero => intro t x y b xv yv h; cases h
  | succ d ih =>
    intro t x y b xv yv h hx hy
    obtain ⟨D, rfl⟩ : ∃ k, D = k + 1 := ⟨D - 1, by omega⟩
    cases x with
    | s x => cases y with
      | s y => exact eqS_ok (show eqS P t x y = some b from h) hx hy
      | agg ys => cases h
    | agg X => cases y with
      | s y => cases h
      | agg Y =>
        have h' : eqAgg P (eqT P d) t X Y = some b := h
        unfold eqAgg at h'
        cases hs : P.stoodInHeld t with
        | true => rw [hs] at h'; cases h'
        | false =>
          rw [hs] at h'
          obtain ⟨fs, h1, h2⟩ := ap_some h'
          obtain ⟨a, ha, rfl⟩ := fieldsOf_some h1
          obtain ⟨xs, rfl, hxs⟩ := hx
          obtain ⟨ys, rfl, hys⟩ := hy
          have hf : P.fieldsOf t = a := by simp [Program.fieldsOf, ha]
          rw [run_equalIn_struct w D t xs ys (by rw [hf]; exact ha) hs, hf]
          exact eqFs_ok (ih D (by omega)) hxs hys _ h2

theorem eqU_ok {t : TypeId} {x y : U} {b : Bool} {xv yv : Value} (h : eqU P t x y = some b) (hx : URel μ x xv) (hy : URel μ y yv) : (Op.equal t xv yv).run P w = .ok b w :=
  eqT_ok 8 10000 (by decide) t x y b xv yv h hx hy

/-! ### operations of two operands -/

theorem binO_ok {op : BinOp} {t : TypeId} {x y : U} {r : V} {xv yv : Value} (h : binO P op t x y = some r) (hx : URel μ x xv) (hy : URel μ y yv)
    (hb : ∀ o, (o = .eql ∨ o = .neq) → binOp o t xv yv = if o = .eql then (do pure (.bool (← Op.equal t xv yv))) else (do pure (.bool (!(← Op.equal t xv yv))))) :
    (op = .eql ∨ op = .neq) ∧ ∃ rv, (binOp op t xv yv).run P w = .ok rv w ∧ VRel μ r rv := by
  unfold binO at h
  cases op <;> first
    | (exfalso; cases h; done)
    | skip
  case eql =>
    obtain ⟨b, h1, h2⟩ := ap_some (o := eqU P t x y) h
    cases h2
    refine ⟨.inl rfl, .bool b, ?_, VRel.bool b⟩
    rw [hb .eql (.inl rfl)]
    simp [eqU_ok h1 hx hy]
  case neq =>
    obtain ⟨b, h1, h2⟩ := ap_some (o := eqU P t x y) h
    cases h2
    refine ⟨.inr rfl, .bool (!b), ?_, ?_⟩
    · rw [hb .neq (.inr rfl)]
      simp [eqU_ok h1 hx hy]
    · show VRel μ (Sx.bool (notb b)) _
      rw [notb_eq]
      exact VRel.bool _

theorem SRel.notInt {x : S} {v : Value} (h : SRel μ x v) (hx : ∀ k n, x ≠ .int k n) : ∀ k n, v ≠ .int k n := by
  intro k n e
  subst e
  cases x <;> simp only [SRel, strV, ptrV] at h <;> first
    | (cases h; exact hx _ _ rfl)
    | (cases h; done)
    | (obtain ⟨m, _, h2⟩ := h; cases h2; done)
    | (obtain ⟨m, a, cap, _, h2, _⟩ := h; cases h2; done)
    | (obtain ⟨x, y, h2, _⟩ := h; cases h2; done)

end

end Go.Sx
