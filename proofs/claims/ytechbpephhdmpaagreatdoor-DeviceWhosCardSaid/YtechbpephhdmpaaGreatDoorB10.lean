/-
  SOUNDNESS OF THE ABSTRACT INTERPRETER, tenth part: maps, and ranging over maps and texts.
-/
import Derived.Test.YtechbpephhdmpaaGreatDoorB9
import Derived.Laws.Small
namespace Go.Sx

section
variable {P : Program} {w : World} {μ : Mu} {h h' : H}

/-! ### sameness -/

theorem eqL_true {α : Type} {f : α → α → Bool} (hf : ∀ x y, f x y = true → x = y) {a b : List α} (h : eqL f a b = true) : a = b := by
  induction a generalizing b with
  | nil => cases b with
    | nil => rfl
    | cons => cases h
  | cons x a ih => cases b with
    | nil => cases h
    | cons y b =>
      have h' : (Bool.casesOn (f x y) false (eqL f a b) : Bool) = true := h
      cases e : f x y with
      | false => rw [e] at h'; cases h'
      | true => rw [e] at h'; rw [hf _ _ e, ih h']
theorem eqLN_true {a b : List Nat} (h : eqL Nat.beq a b = true) : a = b := eqL_true (fun x y h => by rwa [Nat.beq_eq] at h) h
theorem eqCp_true {a b : Cp} (h : eqCp a b = true) : a = b := by
  cases a <;> cases b <;> first
    | (cases h; done)
    | (have h' : Nat.beq _ _ = true := h; rw [Nat.beq_eq] at h'; rw [h'])
theorem eqI_true {a b : Int} (h : eqI a b = true) : a = b := by rw [eqI_eq] at h; simpa using h
theorem sameS_true {x y : S} (h : sameS x y = true) : x = y := by
  cases x <;> cases y <;> first
    | rfl
    | (cases h; done)
    | skip
  case bool.bool a b => have h' : eqB a b = true := h; rw [eqB_eq] at h'; simp at h'; rw [h']
  case int.int k a l b =>
    have h' : andb (eqK k l) (eqI a b) = true := h
    rw [andb_eq, Bool.and_eq_true] at h'
    rw [eqK_true h'.1, eqI_true h'.2]
  case str.str a b => rw [eqLN_true (a := a) (b := b) h]
  case ptr.ptr i o j p =>
    have h' : andb (Nat.beq i j) (Nat.beq o p) = true := h
    rw [andb_eq, Bool.and_eq_true, Nat.beq_eq, Nat.beq_eq] at h'
    rw [h'.1, h'.2]
  case slc.slc i o n c j p m e =>
    have h' : andb (Nat.beq i j) (andb (Nat.beq o p) (andb (Nat.beq n m) (eqCp c e))) = true := h
    rw [andb_eq, andb_eq, andb_eq, Bool.and_eq_true, Bool.and_eq_true, Bool.and_eq_true, Nat.beq_eq, Nat.beq_eq, Nat.beq_eq] at h'
    rw [h'.1, h'.2.1, h'.2.2.1, eqCp_true h'.2.2.2]
  case map.map i j => have h' : Nat.beq i j = true := h; rw [Nat.beq_eq] at h'; rw [h']
  case fn.fn f a b g c d =>
    have h' : andb (Nat.beq f g) (andb (eqL Nat.beq a c) (eqL Nat.beq b d)) = true := h
    rw [andb_eq, andb_eq, Bool.and_eq_true, Bool.and_eq_true, Nat.beq_eq] at h'
    have h1 : f = g := h'.1
    rw [h1, eqLN_true h'.2.1, eqLN_true h'.2.2]
  case yld.yld i j => have h' : Nat.beq i j = true := h; rw [Nat.beq_eq] at h'; rw [h']
  case ifc.ifc t i u j =>
    have h' : andb (Nat.beq t u) (Nat.beq i j) = true := h
    rw [andb_eq, Bool.and_eq_true, Nat.beq_eq, Nat.beq_eq] at h'
    have h1 : t = u := h'.1
    rw [h1, h'.2]
theorem sameU_true {x y : U} (h : sameU x y = true) : x = y := by
  cases x <;> cases y <;> first
    | (cases h; done)
    | skip
  case s.s x y => rw [sameS_true (x := x) (y := y) h]
  case agg.agg x y => rw [eqL_true (a := x) (b := y) (fun _ _ => sameS_true) h]
theorem sameV_true {x y : V} (h : sameV x y = true) : x = y := by
  cases x <;> cases y <;> first
    | (cases h; done)
    | skip
  case u.u x y => rw [sameU_true (x := x) (y := y) h]
  case tup.tup x y => rw [eqL_true (a := x) (b := y) (fun _ _ => sameU_true) h]

/-! ### objects -/

theorem run_getObj' {r : Nat} {o : Obj} (hb : w.heap[r]? = some o) (hc : ∀ c e f, o ≠ .cells c e f) : (getObj r).run P w = .ok o w := by
  unfold getObj
  cases o <;> first
    | exact absurd rfl (hc _ _ _)
    | simp [Sem.run, hb]
theorem run_setObj' {r : Nat} {o o' : Obj} (hb : w.heap[r]? = some o) (hc : ∀ c e f, o ≠ .cells c e f) : (setObj r o').run P w = .ok () { w with heap := w.heap.setIfInBounds r o' } := by
  unfold setObj
  cases o <;> first
    | exact absurd rfl (hc _ _ _)
    | simp [Sem.run, hb]

theorem HRel.mapAt (hr : HRel μ h w) {i : Nat} {m : BI} {es : List E} {c : Nat} (hm : μ i = some m) (hg : h.get i = .map es c) :
    ∃ es', w.heap[m.b]? = some (.map es' c) ∧ All2 (ERel μ) es es'.toList := by
  obtain ⟨m', h1, h2⟩ := hr.obj i (hr.lt_most hm) (by rw [hg]; simp)
  rw [hm] at h1; cases h1
  rw [hg] at h2
  exact h2

/-- an object that is no row takes another's place -/
theorem HRel.putObj (hr : HRel μ h w) {i : Nat} {m : BI} {o : O} {ob ob' : Obj} (hm : μ i = some m) (hl : h.get i ≠ .gone) (hb : w.heap[m.b]? = some ob) (hc : ∀ c e f, ob ≠ .cells c e f)
    (ho : ∀ w', w'.heap[m.b]? = some ob' → ORel μ m w' o) : ∃ w', (setObj m.b ob').run P w = .ok () w' ∧ HRel μ (h.set i o) w' ∧ Fr h μ w (h.set i o) μ w' ∧ w'.drawn = w.drawn := by
  have hlt : m.b < w.heap.size := (Array.getElem?_eq_some_iff.1 hb).1
  have hnew : ({ w with heap := w.heap.setIfInBounds m.b ob' } : World).heap[m.b]? = some ob' := by
    show (w.heap.setIfInBounds m.b ob')[m.b]? = _
    simp [hlt]
  obtain ⟨r1, r2⟩ := hr.put (w' := { w with heap := w.heap.setIfInBounds m.b ob' }) hm hl (by simp) (fun b hb' => by
    show (w.heap.setIfInBounds m.b ob')[b]? = _
    rw [Array.getElem?_setIfInBounds_ne (fun e => hb' e.symm)]) (ho _ hnew) rfl rfl rfl
  exact ⟨_, run_setObj' hb hc, r1, r2, rfl⟩

/-! ### keys -/

theorem checkKey_scalar {e : Bool} {D : Nat} {t : TypeId} {v : Value} {d : TypeDesc} (hd : P.underlying t = some d)
    (h1 : ∀ ms, d ≠ .interface ms) (h2 : ∀ n el, d ≠ .array n el) (h3 : ∀ fs, d ≠ .struct fs) : (Instr.checkKey e (D + 1) t v).run P w = .ok () w := by
  simp only [Instr.checkKey, Sem.run_bind, run_underlying' hd, Result.andThen_ok]
  cases d <;> first
    | exact absurd rfl (h1 _)
    | exact absurd rfl (h2 _ _)
    | exact absurd rfl (h3 _)
    | rfl

theorem eqS_type {t : TypeId} {x y : S} {b : Bool} (h : eqS P t x y = some b) :
    ∃ d, P.underlying t = some d ∧ (∀ ms, d ≠ .interface ms) ∧ (∀ n el, d ≠ .array n el) ∧ (∀ fs, d ≠ .struct fs) := by
  have ptr : isPtr P t = true → ∃ d, P.underlying t = some d ∧ (∀ ms, d ≠ .interface ms) ∧ (∀ n el, d ≠ .array n el) ∧ (∀ fs, d ≠ .struct fs) := fun h1 => by
    obtain ⟨e, he⟩ := isPtr_true h1
    exact ⟨_, he, by simp, by simp, by simp⟩
  have slc : (sliceElem P t).isSome = true → ∃ d, P.underlying t = some d ∧ (∀ ms, d ≠ .interface ms) ∧ (∀ n el, d ≠ .array n el) ∧ (∀ fs, d ≠ .struct fs) := fun h1 => by
    obtain ⟨e, he⟩ := Option.isSome_iff_exists.1 h1
    exact ⟨_, sliceElem_some he, by simp, by simp, by simp⟩
  have mp : (mapOf P t).isSome = true → ∃ d, P.underlying t = some d ∧ (∀ ms, d ≠ .interface ms) ∧ (∀ n el, d ≠ .array n el) ∧ (∀ fs, d ≠ .struct fs) := fun h1 => by
    obtain ⟨e, he⟩ := Option.isSome_iff_exists.1 h1
    exact ⟨_, mapOf_some he, by simp, by simp, by simp⟩
  cases x <;> first
    | (exfalso; cases h; done)
    | skip
  case bool a =>
    obtain ⟨h1, _⟩ := gd_some (b := isBoolT P t) h
    exact ⟨_, isBoolT_true h1, by simp, by simp, by simp⟩
  case int k a =>
    obtain ⟨h1, _⟩ := gd_some (b := isIntT P t) h
    obtain ⟨k, hk⟩ := isIntT_true h1
    exact ⟨_, hk, by simp, by simp, by simp⟩
  case str a =>
    obtain ⟨h1, _⟩ := gd_some (b := isStr P t) h
    exact ⟨_, isStr_true h1, by simp, by simp, by simp⟩
  case nilp =>
    rcases sPtr_ne' (n := gd (isPtr P t) (some true)) h (by simp) with ⟨rfl, h⟩ | ⟨j, p, rfl, h⟩
    · exact ptr (gd_some h).1
    · exact ptr (gd_some h).1
  case ptr i o =>
    rcases sPtr_ne' (n := gd (isPtr P t) (some false)) h (by simp) with ⟨rfl, h⟩ | ⟨j, p, rfl, h⟩
    · exact ptr (gd_some h).1
    · obtain ⟨e, h1, _⟩ := ap_some h
      exact ⟨_, ptrTo_some h1, by simp, by simp, by simp⟩
  case nils =>
    rcases sSlc_ne (n := gd (sliceElem P t).isSome (some true)) h (by simp) with ⟨rfl, h⟩ | ⟨j, p, len, c, rfl, h⟩
    · exact slc (gd_some h).1
    · exact slc (gd_some h).1
  case slc i o len c =>
    rcases sSlc_ne (n := gd (sliceElem P t).isSome (some false)) h (by simp) with ⟨rfl, h⟩ | ⟨j, p, len, c, rfl, h⟩
    · exact slc (gd_some h).1
    · cases h
  case nilm =>
    rcases sMap_ne (n := gd (mapOf P t).isSome (some true)) h (by simp) with ⟨rfl, h⟩ | ⟨j, rfl, h⟩
    · exact mp (gd_some h).1
    · exact mp (gd_some h).1
  case map i =>
    rcases sMap_ne (n := gd (mapOf P t).isSome (some false)) h (by simp) with ⟨rfl, h⟩ | ⟨j, rfl, h⟩
    · exact mp (gd_some h).1
    · cases h

theorem checkFs_ok {e : Bool} {r : TypeId → U → U → Option Bool} {d : Nat}
    (hr : ∀ t x xv, r t x x = some true → URel μ x xv → (Instr.checkKey e d t xv).run P w = .ok () w)
    {X : List S} {xs : Array Value} (hx : All2 (SRel μ) X xs.toList) (fs : List Field) (h : eqFs P r X X fs = some true) :
    (forIn fs PUnit.unit (fun (f : Field) _ => (if f.name ≠ "_" then do Instr.checkKey e d f.type (← part f.type xs f.offset); pure (ForInStep.yield PUnit.unit) else pure (ForInStep.yield PUnit.unit) : Sem (ForInStep PUnit)))).run P w = .ok PUnit.unit w := by
  induction fs with
  | nil => rfl
  | cons f fs ih =>
    have h' : (Bool.casesOn (decide (f.name = "_"))
      (ap (partU P f.type X f.offset) fun x => ap (partU P f.type X f.offset) fun y => ap (r f.type x y) fun b => Bool.casesOn b (some false) (eqFs P r X X fs)) none : Option Bool) = some true := h
    by_cases hn : f.name = "_"
    · rw [decide_eq_true hn] at h'; cases h'
    · rw [decide_eq_false hn] at h'
      obtain ⟨x, h1, h2⟩ := ap_some h'
      obtain ⟨y, h3, h4⟩ := ap_some h2
      rw [h1] at h3; cases h3
      obtain ⟨c, h5, h6⟩ := ap_some h4
      cases c with
      | false => cases h6
      | true =>
        obtain ⟨xv, e1, r1⟩ := partU_ok (w := w) h1 hx
        have e3 := hr _ _ _ h5 r1
        rw [List.forIn_cons, if_pos hn]
        simp only [Sem.run_bind, e1, e3, Result.andThen_ok, Sem.run_pure]
        exact ih h6

theorem checkKey_eq {e : Bool} (d D : Nat) (hd : d ≤ D) : ∀ (t : TypeId) (x : U) (xv : Value), eqT P d t x x = some true → URel μ x xv → (Instr.checkKey e D t xv).run P w = .ok () w := by
  induction d generalizing D with
  | zero => intro t x xv h; cases h
  | succ d ih =>
    intro t x xv h hx
    obtain ⟨D, rfl⟩ : ∃ k, D = k + 1 := ⟨D - 1, by omega⟩
    cases x with
    | s x =>
      obtain ⟨ds, h1, h2, h3, h4⟩ := eqS_type (show eqS P t x x = some true from h)
      exact checkKey_scalar h1 h2 h3 h4
    | agg X =>
      have h' : eqAgg P (eqT P d) t X X = some true := h
      unfold eqAgg at h'
      cases hs : P.stoodInHeld t with
      | true => rw [hs] at h'; cases h'
      | false =>
        rw [hs] at h'
        obtain ⟨fs, h1, h2⟩ := ap_some h'
        obtain ⟨a, ha, rfl⟩ := fieldsOf_some h1
        obtain ⟨xs, rfl, hxs⟩ := hx
        have := checkFs_ok (e := e) (d := D) (fun t x xv h hx => ih D (by omega) t x xv h hx) hxs _ h2
        simp only [Instr.checkKey, Sem.run_bind, run_underlying' ha, Result.andThen_ok, ← Array.forIn_toList]
        simp at this ⊢
        rw [this]
        rfl

theorem keyOk_ok {e : Bool} {t : TypeId} {k : U} {kv : Value} (h : keyOk P t k = true) (hk : URel μ k kv) : (Instr.checkKey e 10000 t kv).run P w = .ok () w ∧ ∃ d, P.underlying t = some d := by
  cases k with
  | s x =>
    cases x <;> first
      | (cases h; done)
      | skip
    case int k n =>
      obtain ⟨j, hj⟩ := isIntT_true (show isIntT P t = true from h)
      exact ⟨checkKey_scalar hj (by simp) (by simp) (by simp), _, hj⟩
    case str s => exact ⟨checkKey_scalar (isStr_true (show isStr P t = true from h)) (by simp) (by simp) (by simp), _, isStr_true (show isStr P t = true from h)⟩
  | agg X =>
    have h' : (Option.casesOn (eqU P t (.agg X) (.agg X)) false (fun b => b) : Bool) = true := h
    cases e1 : eqU P t (.agg X) (.agg X) with
    | none => rw [e1] at h'; cases h'
    | some b =>
      rw [e1] at h'
      have hb : b = true := h'
      subst hb
      refine ⟨checkKey_eq 8 10000 (by decide) t _ _ e1 hk, ?_⟩
      have e2 : eqAgg P (eqT P 7) t X X = some true := e1
      unfold eqAgg at e2
      cases hs : P.stoodInHeld t with
      | true => rw [hs] at e2; cases e2
      | false =>
        rw [hs] at e2
        obtain ⟨fs, h1, _⟩ := ap_some e2
        obtain ⟨a, ha, _⟩ := fieldsOf_some h1
        exact ⟨_, ha⟩

/-! ### finding a key -/

def FRel (μ : Mu) : Option (Nat × U) → Option (Nat × Value) → Prop
  | none, none => True
  | some p, some q => p.1 = q.1 ∧ URel μ p.2 q.2
  | _, _ => False

theorem sameNow_ok {t : TypeId} {d : TypeDesc} {x y : Value} {b : Bool} (hd : P.underlying t = some d) (h : Instr.sameNow d x y = some b) : (Op.equal t x y).run P w = .ok b w := by
  unfold Instr.sameNow at h
  split at h
  · split at h
    · rename_i hk
      subst hk
      cases h
      exact run_equalIn_int w 9999 t _ _ _ _ hd
    · cases h
  · cases h
    show (Op.equalIn 10000 t _ _).run P w = _
    rw [run_equalIn_string w 9999 t _ _ hd, ← beq_toListBytes]
  · cases h
    exact run_equalIn_bool' w 9999 t _ _ hd
  · cases h

/-- finding from the i-th on -/
noncomputable def findFrom (P : Program) (kt : TypeId) (k : U) (es : List E) (i : Nat) : Option (Option (Nat × U)) :=
  List.rec (motive := fun _ => Nat → Option (Option (Nat × U))) (fun _ => some none) (fun e _ r i => ap (eqU P kt k e.k) fun b => Bool.casesOn b (r (Nat.succ i)) (some (some (i, e.v)))) es i
theorem findFrom_cons (kt : TypeId) (k : U) (e : E) (es : List E) (i : Nat) :
    findFrom P kt k (e :: es) i = ap (eqU P kt k e.k) fun b => Bool.casesOn b (findFrom P kt k es (i + 1)) (some (some (i, e.v))) := rfl

theorem findAsking_ok {kt : TypeId} {k : U} {kv : Value} (hk : URel μ k kv) {es : List E} {es' : List MapEntry} (he : All2 (ERel μ) es es') {i : Nat} {r : Option (Nat × U)}
    (h : findFrom P kt k es i = some r) : ∃ rv, (Instr.findAsking kt kv es' i).run P w = .ok rv w ∧ FRel μ r rv := by
  induction es generalizing es' i with
  | nil => cases h; rw [he.nil_left]; exact ⟨none, rfl, trivial⟩
  | cons e es ih =>
    obtain ⟨e', es', rfl, ⟨h1, h2, h3⟩, he⟩ := he.cons_left
    rw [findFrom_cons] at h
    obtain ⟨b, h4, h5⟩ := ap_some h
    have h6 := eqU_ok (w := w) h4 hk h1
    simp only [Instr.findAsking, Sem.run_bind, h6, Result.andThen_ok]
    cases b with
    | true => cases h5; exact ⟨some (i, e'.val), rfl, rfl, h2⟩
    | false => simpa using ih he h5

theorem findNow_ok {kt : TypeId} {d : TypeDesc} (hd : P.underlying kt = some d) {k : U} {kv : Value} (hk : URel μ k kv) {es : List E} {es' : List MapEntry} (he : All2 (ERel μ) es es') {i : Nat}
    {r : Option (Nat × U)} {rv : Option (Nat × Value)} (h : findFrom P kt k es i = some r) (hn : Instr.findNow d kv es' i = some rv) : FRel μ r rv := by
  induction es generalizing es' i with
  | nil => cases h; rw [he.nil_left] at hn; cases hn; trivial
  | cons e es ih =>
    obtain ⟨e', es', rfl, ⟨h1, h2, h3⟩, he⟩ := he.cons_left
    rw [findFrom_cons] at h
    obtain ⟨b, h4, h5⟩ := ap_some h
    have h6 := eqU_ok (w := default) h4 hk h1
    simp only [Instr.findNow] at hn
    cases hs : Instr.sameNow d kv e'.key with
    | none => rw [hs] at hn; cases hn
    | some b' =>
      rw [hs] at hn
      have h7 := sameNow_ok (w := default) hd hs
      rw [h6] at h7
      cases h7
      cases b with
      | true => cases h5; cases hn; exact ⟨rfl, h2⟩
      | false => exact ih he h5 hn

theorem findKey_ok {kt : TypeId} {d : TypeDesc} (hd : P.underlying kt = some d) {k : U} {kv : Value} (hk : URel μ k kv) {es : List E} {es' : List MapEntry} (he : All2 (ERel μ) es es')
    {r : Option (Nat × U)} (h : findK P kt k es = some r) : ∃ rv, (Instr.findKey kt kv es').run P w = .ok rv w ∧ FRel μ r rv := by
  have h' : findFrom P kt k es 0 = some r := h
  simp only [Instr.findKey, Sem.run_bind, run_underlying' hd, Result.andThen_ok]
  cases hn : Instr.findNow d kv es' 0 with
  | some rv => exact ⟨rv, rfl, findNow_ok hd hk he h' hn⟩
  | none => exact findAsking_ok hk he h'

/-! ### lookup -/

theorem zeroU_ok {t : TypeId} {z : U} (h : zeroU P t = some z) : ∃ zv, (zeroValue t).run P w = .ok zv w ∧ URel μ z zv := by
  obtain ⟨i, h1, h2⟩ := ap_some h
  obtain ⟨zv, h3, h4⟩ := ap_some h2
  obtain ⟨u, h5, h6⟩ := vU_ne (d := none) h4 (by simp)
  cases h6
  have := ofVal_rel (μ := μ) zv
  rw [h5] at this
  exact ⟨zv, run_zeroValue' h1 h3, this⟩

theorem lookup_ok (hr : HRel μ h w) {t : TypeId} {X K r : V} {ok : Bool} {xv kv : Value} (e : lookup P t X K ok h = some r) (hx : VRel μ X xv) (hk : VRel μ K kv) :
    ∃ rv, (Instr.lookup t xv kv ok).run P w = .ok rv w ∧ VRel μ r rv := by
  obtain ⟨m, h1, h2⟩ := ap_some e
  obtain ⟨z, h3, h4⟩ := ap_some h2
  obtain ⟨k, rfl, h5⟩ := vU_ne (d := none) h4 (by simp)
  obtain ⟨h6, h7⟩ := gd_some h5
  obtain ⟨x, rfl, h8⟩ := vS_ne (d := none) h7 (by simp)
  have hk' : URel μ k kv := hk
  obtain ⟨zv, z1, z2⟩ := zeroU_ok (w := w) (μ := μ) h3
  rcases sMap_ne h8 (by simp) with ⟨rfl, h9⟩ | ⟨i, rfl, h9⟩
  · cases h9
    cases one_rel hx
    obtain ⟨ck, d, hd⟩ := keyOk_ok (e := true) (w := w) h6 hk'
    refine ⟨_, ?_, lookR_rel z2⟩
    have hf : (Instr.findKey m.1 kv []).run P w = .ok none w := by
      simp only [Instr.findKey, Sem.run_bind, run_underlying' hd, Result.andThen_ok, Instr.findNow]
      rfl
    simp only [Instr.lookup, Sem.run_bind, run_underlying' (mapOf_some h1), Result.andThen_ok, Sem.run_pure, Array.isEmpty_empty, ck, hf, z1]
  · obtain ⟨es, c, h10, h11⟩ := oMap_ne (d := none) h9 (by simp)
    obtain ⟨rr, h12, h13⟩ := ap_some (o := findK P m.1 k es) h11
    obtain ⟨M, hm, rfl⟩ := one_rel hx
    obtain ⟨es', k1, k2⟩ := hr.mapAt hm h10
    obtain ⟨ck, d, hd⟩ := keyOk_ok (e := es'.isEmpty) (w := w) h6 hk'
    obtain ⟨rv, f1, f2⟩ := findKey_ok (w := w) hd hk' k2 h12
    cases rr with
    | none => cases rv with
      | some _ => cases f2
      | none =>
        cases h13
        refine ⟨_, ?_, lookR_rel z2⟩
        simp only [Instr.lookup, Sem.run_bind, run_underlying' (mapOf_some h1), Result.andThen_ok, run_getObj' k1 (by simp), Sem.run_pure, ck, f1, z1]
    | some p => cases rv with
      | none => cases f2
      | some q =>
        cases h13
        refine ⟨_, ?_, lookR_rel f2.2⟩
        simp only [Instr.lookup, Sem.run_bind, run_underlying' (mapOf_some h1), Result.andThen_ok, run_getObj' k1 (by simp), Sem.run_pure, ck, f1]

/-! ### update -/

theorem putAt_ok {k v : U} {kv vv : Value} (hk : URel μ k kv) (hv : URel μ v vv) {es : List E} {es' : List MapEntry} (he : All2 (ERel μ) es es') (i : Nat) :
    All2 (ERel μ) (putAt k v es i) (es'.modify i fun e => { e with key := kv, val := vv }) := by
  induction es generalizing es' i with
  | nil => rw [he.nil_left]; simp [putAt, All2]
  | cons e es ih =>
    obtain ⟨e', es', rfl, ⟨h1, h2, h3⟩, he⟩ := he.cons_left
    cases i with
    | zero => exact ⟨⟨hk, hv, h3⟩, he⟩
    | succ i => exact ⟨⟨h1, h2, h3⟩, ih he i⟩

theorem stays_ok {old new : Value} : ∃ r w', (Instr.keyThatStays old new).run P w = .ok r w' ∧ (r = new ∨ r = old) ∧ w'.heap = w.heap ∧ w'.os = w.os ∧ w'.tape = w.tape ∧ w'.output = w.output := by
  unfold Instr.keyThatStays
  by_cases hs : Instr.sameBits 10000 old new = true
  · rw [if_pos hs]
    exact ⟨new, w, rfl, .inl rfl, rfl, rfl, rfl, rfl⟩
  · rw [if_neg hs]
    simp only [Sem.run_bind, run_choose, Question.forced]
    have : ¬ ((2 : Nat) = 1) := by decide
    simp only [decide_false, this, Bool.false_eq_true, if_false, Result.andThen_ok, Sem.run_pure]
    refine ⟨_, _, rfl, ?_, rfl, rfl, rfl, rfl⟩
    split
    · exact .inl rfl
    · exact .inr rfl

theorem update_ok (hr : HRel μ h w) {t : TypeId} {X K Y : V} {xv kv yv : Value} (e : update P t X K Y h = some h') (hx : VRel μ X xv) (hk : VRel μ K kv) (hy : VRel μ Y yv) :
    ∃ w', (Instr.mapUpdate t xv kv yv).run P w = .ok () w' ∧ HRel μ h' w' ∧ Fr h μ w h' μ w' := by
  obtain ⟨m, h1, h2⟩ := ap_some e
  obtain ⟨k, rfl, h3⟩ := vU_ne (d := none) h2 (by simp)
  obtain ⟨v, rfl, h4⟩ := vU_ne (d := none) h3 (by simp)
  obtain ⟨h6, h7⟩ := gd_some h4
  obtain ⟨x, rfl, h8⟩ := vS_ne (d := none) h7 (by simp)
  have hk' : URel μ k kv := hk
  have hy' : URel μ v yv := hy
  rcases sMap_ne h8 (by simp) with ⟨rfl, h9⟩ | ⟨i, rfl, h9⟩
  · cases h9
  · obtain ⟨es, c, h10, h11⟩ := oMap_ne (d := none) h9 (by simp)
    obtain ⟨o, h12, h13⟩ := ap_some (o := updIn P m.1 k v es c) h11
    cases h13
    obtain ⟨rr, h14, h15⟩ := ap_some (o := findK P m.1 k es) h12
    obtain ⟨M, hm, rfl⟩ := one_rel hx
    obtain ⟨es', k1, k2⟩ := hr.mapAt hm h10
    obtain ⟨ck, d, hd⟩ := keyOk_ok (e := false) (w := w) h6 hk'
    obtain ⟨rv, f1, f2⟩ := findKey_ok (w := w) hd hk' k2 h14
    simp only [Instr.mapUpdate, Sem.run_bind, run_underlying' (mapOf_some h1), Result.andThen_ok, run_getObj' k1 (by simp), ck, f1]
    cases rr with
    | none => cases rv with
      | some _ => cases f2
      | none =>
        cases h15
        obtain ⟨w', s1, s2, s3, _⟩ := hr.putObj (P := P) (o := .map (app es [⟨k, v, c⟩]) (Nat.succ c)) (ob' := .map (es'.push { key := kv, val := yv, born := c }) (c + 1)) hm (by rw [h10]; simp) k1 (by simp)
          (fun w' hw' => ⟨_, hw', by rw [app_eq, Array.toList_push]; exact k2.append ⟨⟨hk', hy', rfl⟩, trivial⟩⟩)
        exact ⟨w', s1, s2, s3⟩
    | some p => cases rv with
      | none => cases f2
      | some q =>
        obtain ⟨e0, h16, h17⟩ := ap_some (o := nth? es p.1) (f := fun e => gd (sameU k e.k) (some (O.map (putAt k v es p.1) c))) h15
        obtain ⟨h18, h19⟩ := gd_some h17
        cases h19
        obtain ⟨f3, f4⟩ := f2
        rw [nth?_eq] at h16
        obtain ⟨e0', h20, h21, _, _⟩ := k2.get h16
        rw [← sameU_true h18] at h21
        obtain ⟨i', vv⟩ := q
        have hi : i' = p.1 := f3.symm
        subst hi
        have h20' : es'[p.1]? = some e0' := by simpa using h20
        obtain ⟨kk, w1, t1, t2, t3, t4, t5, t6⟩ := stays_ok (P := P) (w := w) (old := ((es'[p.1]?).map (·.key)).getD kv) (new := kv)
        have hkk : URel μ k kk := by
          rcases t2 with rfl | rfl
          · exact hk'
          · rw [h20']; exact h21
        obtain ⟨w', s1, s2, s3, _⟩ := (hr.heap t3).putObj (P := P) (o := .map (putAt k v es p.1) c) (ob' := .map (es'.modify p.1 fun e => { e with key := kk, val := yv }) c) hm (by rw [h10]; simp) (by rw [t3]; exact k1) (by simp)
          (fun w' hw' => ⟨_, hw', by rw [Array.toList_modify]; exact putAt_ok hkk hy' k2 p.1⟩)
        refine ⟨w', ?_, s2, (Fr.same t3 t4 t5 t6).trans s3⟩
        simp only [Sem.run_bind, t1, Result.andThen_ok]
        exact s1

end

end Go.Sx
