/-
  SOUNDNESS OF THE ABSTRACT INTERPRETER, fifteenth part: an operation.
-/
import Derived.Test.YtechbpephhdmpaaGreatDoorB14
namespace Go.Sx

section
variable {P : Program} {w : World} {μ : Mu} {h h' : H} {T : Tr V} {n : Nat} {a : Act} {v : V}

theorem mem_okT {l : List Tmp} (hl : okT n l) {l' : List Tmp} (hs : ∀ t ∈ l', t ∈ l) : okT n l' := fun t ht => hl t (hs t ht)
theorem okT_mem {l : List Operand} (hl : okT n (l.flatMap tmpOf)) {x : Operand} (hx : x ∈ l) : okT n (tmpOf x) := fun t ht => hl t (List.mem_flatMap.2 ⟨x, hx, ht⟩)

theorem arg1_ne {l : List V} {f : V → RO} {r : RO} (e : arg1 l f = r) (hr : r ≠ .bad) : ∃ x, l = [x] ∧ f x = r := by
  cases l with
  | nil => exact absurd e.symm hr
  | cons x l => cases l with
    | nil => exact ⟨x, rfl, e⟩
    | cons y l => exact absurd e.symm hr
theorem arg2_ne {l : List V} {f : V → V → RO} {r : RO} (e : arg2 l f = r) (hr : r ≠ .bad) : ∃ x y, l = [x, y] ∧ f x y = r := by
  cases l with
  | nil => exact absurd e.symm hr
  | cons x l => cases l with
    | nil => exact absurd e.symm hr
    | cons y l => cases l with
      | nil => exact ⟨x, y, rfl, e⟩
      | cons z l => exact absurd e.symm hr
theorem args1 {l : List V} {args : Array Value} (hr : All2 (VRel μ) l args.toList) {x : V} (hl : l = [x]) : ∃ xv, args = #[xv] ∧ VRel μ x xv := by
  subst hl
  obtain ⟨xv, r, h1, h2, h3⟩ := hr.cons_left
  rw [h3.nil_left] at h1
  exact ⟨xv, by apply Array.ext'; rw [h1], h2⟩
theorem args2 {l : List V} {args : Array Value} (hr : All2 (VRel μ) l args.toList) {x y : V} (hl : l = [x, y]) : ∃ xv yv, args = #[xv, yv] ∧ VRel μ x xv ∧ VRel μ y yv := by
  subst hl
  obtain ⟨xv, r, h1, h2, h3⟩ := hr.cons_left
  obtain ⟨yv, r2, h4, h5, h6⟩ := h3.cons_left
  rw [h4, h6.nil_left] at h1
  exact ⟨xv, yv, by apply Array.ext'; rw [h1], h2, h5⟩

/-- a builtin's call -/
theorem run_builtinOp {b : Builtin} {args : Array Operand} {ats : Array TypeId} {dst : Option Tmp} {ty : TypeId} {pos : String} {after : Array Edge} {guard : Option (Nat × Bool)} {x : Array Value → Sem Value}
    (hx : ∀ cs vs, Go.builtin b ats ty cs vs = (do pure (Next.value (← x vs)))) (w : World) :
    (execOp a.eval ⟨dst, .call ⟨.builtin b, args, ats⟩, ty, pos, after, guard⟩).run P w = (do pure (Next.value (← x (args.map a.eval))) : Sem Next).run P w := by
  simp only [execOp, resolve, Sem.run_bind, Sem.run_pure, Result.andThen_ok, invoke, hx]

/-- operations that look at no memory -/
theorem opQ_ok (hT : TRel μ T n a.tmps) (o : Oper) (hok : okT n (opTmps o.op)) (hc : cls P o.op = .q) (hv : opV P T h o.op = .val v h') : h' = h ∧ QRes P μ (execOp a.eval o) v := by
  obtain ⟨dst, op, ty, pos, after, guard⟩ := o
  have hok' : okT n (opTmps op) := hok
  have plain : ∀ {x : Option V}, rv h x = .val v h' → ∀ {y : Sem Value}, (∀ w, x = some v → ∃ rv, y.run P w = .ok rv w ∧ VRel μ v rv) → h' = h ∧ QRes P μ (do pure (Next.value (← y))) v := fun hx y hy => by
    obtain ⟨h1, h2⟩ := rv_val hx
    exact ⟨h2, QRes.v fun w => hy w h1⟩
  cases op <;> first
    | (exfalso; cases hc; done)
    | skip
  case move x =>
    cases hv
    exact ⟨rfl, QRes.pure (ev_rel hT (okT_mem (l := [x]) hok' (by simp)))⟩
  case assign x =>
    cases hv
    exact ⟨rfl, QRes.pure (ev_rel hT (okT_mem (l := [x]) hok' (by simp)))⟩
  case pick c x y =>
    have hl : okT n ([c, x, y].flatMap tmpOf) := hok'
    obtain ⟨h1, t, h2, h3⟩ := pick_ok hv (ev_rel hT (okT_mem hl (by simp))) (ev_rel hT (okT_mem hl (by simp))) (ev_rel hT (okT_mem hl (by simp)))
    refine ⟨h1, fun w => ⟨_, ?_, h3⟩⟩
    simp only [execOp, h2, asBool, Sem.run_bind, Sem.run_pure, Result.andThen_ok]
  case build t ps =>
    refine plain hv fun w hb => build_ok hb ?_
    have := evp_rel hT (l := ps.toList) hok'
    rw [Array.toList_map]
    exact this
  case nilCheck x =>
    obtain ⟨h1, rfl, ad, h2⟩ := nilCheck_ok hv (ev_rel hT (okT_mem (l := [x]) hok' (by simp)))
    have hr := ev_rel hT (x := x) (okT_mem (l := [x]) hok' (by simp))
    rw [h2] at hr
    refine ⟨h1, fun w => ⟨_, ?_, hr⟩⟩
    simp only [execOp, h2]
    rfl
  case binOp op t x y t' =>
    have hl : okT n ([x, y].flatMap tmpOf) := hok'
    exact plain hv fun w hb => binV_ok x y hb (ev_rel hT (okT_mem hl (by simp))) (ev_rel hT (okT_mem hl (by simp)))
  case unOp op t x => exact plain hv fun w hb => unV_ok hb (ev_rel hT (okT_mem (l := [x]) hok' (by simp)))
  case makeInterface t x =>
    have h1 := fun w => makeIface_ok (P := P) (w := w) hv (ev_rel hT (okT_mem (l := [x]) hok' (by simp)))
    exact ⟨(h1 default).1, QRes.v fun w => (h1 w).2⟩
  case makeFunc f x y =>
    cases f <;> first
      | (exfalso; cases hv; done)
      | skip
    case func f =>
      have hl : okT n ((x ++ y).toList.flatMap tmpOf) := hok'
      rw [Array.toList_append, List.flatMap_append] at hl
      have r1 := evs_rel hT (l := x.toList) fun t ht => hl t (List.mem_append_left _ ht)
      have r2 := evs_rel hT (l := y.toList) fun t ht => hl t (List.mem_append_right _ ht)
      obtain ⟨h1, h2⟩ := mkFn_ok (x := x.map a.eval) (y := y.map a.eval) hv (by rw [Array.toList_map]; exact r1) (by rw [Array.toList_map]; exact r2)
      exact ⟨h1, QRes.v fun w => ⟨_, rfl, h2⟩⟩
  case slice t x lo hi mx =>
    have hl : okT n ((#[x] ++ lo.toArray ++ hi.toArray ++ mx.toArray).toList.flatMap tmpOf) := hok'
    refine plain hv fun w hb => slice_ok hb (ev_rel hT (okT_mem hl (by simp))) (evo_rel hT fun y hy => okT_mem hl (by simp [hy])) (evo_rel hT fun y hy => okT_mem hl (by simp [hy])) (evo_rel hT fun y hy => okT_mem hl (by simp [hy]))
  case fieldAddr s x f => exact plain hv fun w hb => fieldAddr_ok hb (ev_rel hT (okT_mem (l := [x]) hok' (by simp)))
  case field s x f => exact plain hv fun w hb => field_ok hb (ev_rel hT (okT_mem (l := [x]) hok' (by simp)))
  case indexAddr t x i =>
    have hl : okT n ([x, i].flatMap tmpOf) := hok'
    exact plain hv fun w hb => indexAddr_ok hb (ev_rel hT (okT_mem hl (by simp))) (ev_rel hT (okT_mem hl (by simp)))
  case index t x i =>
    have hl : okT n ([x, i].flatMap tmpOf) := hok'
    exact plain hv fun w hb => index_ok hb (ev_rel hT (okT_mem hl (by simp))) (ev_rel hT (okT_mem hl (by simp)))
  case typeAssert x s t ok =>
    have h1 := fun w => typeAssert_ok (P := P) (w := w) (s := s) hv (ev_rel hT (okT_mem (l := [x]) hok' (by simp)))
    exact ⟨(h1 default).1, QRes.v fun w => (h1 w).2⟩
  case extract x i =>
    have h1 := fun w => extract_ok (P := P) (w := w) hv (ev_rel hT (okT_mem (l := [x]) hok' (by simp)))
    exact ⟨(h1 default).1, QRes.v fun w => (h1 w).2⟩
  case convert s d x =>
    have hc' : cls P (.convert s d x) = .q := hc
    have hcs : (sliceElem P d).isSome = false ∧ (sliceElem P s).isSome = false ∧ (isUns P s || isUns P d) = false := by
      unfold cls at hc'
      cases h1 : (sliceElem P d).isSome <;> cases h2 : (sliceElem P s).isSome <;> cases h3 : (isUns P s || isUns P d) <;> simp_all
    rcases convert_ok (μ := μ) hv (ev_rel hT (okT_mem (l := [x]) hok' (by simp))) with ⟨h1, _⟩ | ⟨h1, h2, h3⟩ | ⟨h1, h2, _⟩
    · rw [hcs.1] at h1; cases h1
    · exact ⟨h2, QRes.v h3⟩
    · rw [hcs.2.1, hcs.2.2] at h2; rcases h2 with h2 | h2 <;> cases h2
  case call c =>
    have hc' : cls P (.call c) = .q := hc
    obtain ⟨callee, args, ats⟩ := c
    have hl : okT n ((Call.operands ⟨callee, args, ats⟩).toList.flatMap tmpOf) := hok'
    cases callee with
    | value f => cases hc'
    | invoke r m => cases hc'
    | builtin b =>
    have hl' : okT n (args.toList.flatMap tmpOf) := by simpa [Call.operands] using hl
    have hr := evs_rel hT (l := args.toList) hl'
    have hv' : builtin P b ats (evs T args) h = .val v h' := hv
    unfold builtin at hv'
    cases ht : nth? ats.toList 0 with
    | none => rw [ht] at hv'; cases hv'
    | some t =>
    rw [ht] at hv'
    have hv'' : builtinAt P b t (getO (nth? ats.toList 1) 0) (evs T args) h = .val v h' := hv'
    have ht0 : ats[0]? = some t := by rw [nth?_eq] at ht; simpa using ht
    have hr' : All2 (VRel μ) (evs T args) (args.map a.eval).toList := by rw [Array.toList_map]; exact hr
    cases b <;> first
      | (exfalso; cases hc'; done)
      | skip
    case len =>
      obtain ⟨X, hX, h1⟩ := arg1_ne (f := fun x => lenV P t x h) hv'' (by simp)
      obtain ⟨xv, hxv, h2⟩ := args1 hr' hX
      have h3 := fun w => len_ok (P := P) (w := w) ats ty ht0 h1 h2
      refine ⟨(h3 default).1, fun w => ?_⟩
      rw [run_builtinOp (x := Builtin.len_ ats ty) (fun _ _ => rfl) w, hxv]
      obtain ⟨_, rv, h4, h5⟩ := h3 w
      exact ⟨rv, run_v h4, h5⟩
    case max =>
      obtain ⟨X, Y, hX, h1⟩ := arg2_ne (f := fun x y => maxV x y h) hv'' (by simp)
      obtain ⟨xv, yv, hxv, h2, h2'⟩ := args2 hr' hX
      have h3 := fun w => max_ok (P := P) (w := w) ats ty h1 h2 h2'
      refine ⟨(h3 default).1, fun w => ?_⟩
      rw [run_builtinOp (x := Builtin.max_ ats ty) (fun _ _ => rfl) w, hxv]
      obtain ⟨_, rv, h4, h5⟩ := h3 w
      exact ⟨rv, run_v h4, h5⟩
    case min =>
      obtain ⟨X, Y, hX, h1⟩ := arg2_ne (f := fun x y => minV x y h) hv'' (by simp)
      obtain ⟨xv, yv, hxv, h2, h2'⟩ := args2 hr' hX
      have h3 := fun w => min_ok (P := P) (w := w) ats ty h1 h2 h2'
      refine ⟨(h3 default).1, fun w => ?_⟩
      rw [run_builtinOp (x := Builtin.min_ ats ty) (fun _ _ => rfl) w, hxv]
      obtain ⟨_, rv, h4, h5⟩ := h3 w
      exact ⟨rv, run_v h4, h5⟩
    case unsafeSliceData =>
      obtain ⟨X, hX, h1⟩ := arg1_ne (f := fun x => sliceData x h) hv'' (by simp)
      obtain ⟨xv, hxv, h2⟩ := args1 hr' hX
      have h3 := fun w => sliceData_ok (P := P) (w := w) ats ty h1 h2
      refine ⟨(h3 default).1, fun w => ?_⟩
      rw [run_builtinOp (x := Builtin.unsafeSliceData_ ats ty) (fun _ _ => rfl) w, hxv]
      obtain ⟨_, rv, h4, h5⟩ := h3 w
      exact ⟨rv, run_v h4, h5⟩

/-- operations that read memory -/
theorem opL_ok (hr : HRel μ h w) (hT : TRel μ T n a.tmps) (o : Oper) (hok : okT n (opTmps o.op)) (hc : cls P o.op = .l) (hv : opV P T h o.op = .val v h') : h' = h ∧ LRes P μ w (execOp a.eval o) v := by
  obtain ⟨dst, op, ty, pos, after, guard⟩ := o
  have hok' : okT n (opTmps op) := hok
  cases op <;> first
    | (exfalso; cases hc; done)
    | skip
  case load t x =>
    obtain ⟨h1, h2⟩ := rv_val hv
    exact ⟨h2, LRes.v (loadV_ok hr h1 (ev_rel hT (okT_mem (l := [x]) hok' (by simp))))⟩
  case lookup t x i ok =>
    have hl : okT n ([x, i].flatMap tmpOf) := hok'
    obtain ⟨h1, h2⟩ := rv_val hv
    exact ⟨h2, LRes.v (lookup_ok hr h1 (ev_rel hT (okT_mem hl (by simp))) (ev_rel hT (okT_mem hl (by simp))))⟩
  case entry x =>
    obtain ⟨h1, h2⟩ := rv_val hv
    exact ⟨h2, LRes.v (entry_ok hr h1 (ev_rel hT (okT_mem (l := [x]) hok' (by simp))))⟩
  case convert s d x =>
    have hc' : cls P (.convert s d x) = .l := hc
    rcases convert_ok (μ := μ) hv (ev_rel hT (okT_mem (l := [x]) hok' (by simp))) with ⟨h1, _⟩ | ⟨h1, h2, h3⟩ | ⟨h1, h2, h3⟩
    · simp [cls, h1] at hc'
    · exact ⟨h2, LRes.v (h3 w)⟩
    · obtain ⟨h4, h5⟩ := h3 w hr
      exact ⟨h4, LRes.v h5⟩
  case call c =>
    have hc' : cls P (.call c) = .l := hc
    obtain ⟨callee, args, ats⟩ := c
    cases callee with
    | value f => cases hc'
    | invoke r m => cases hc'
    | builtin b => cases b <;> cases hc'

/-- operations that make an object -/
theorem opA_ok (hT : TRel μ T n a.tmps) (o : Oper) (hok : okT n (opTmps o.op)) (hc : cls P o.op = .a) (hv : opV P T h o.op = .val v h') :
    h.n < most ∧ ∃ ob, h' = h.add ob ∧ ∀ w, ARes P μ h.n w (execOp a.eval o) v ob := by
  obtain ⟨dst, op, ty, pos, after, guard⟩ := o
  have hok' : okT n (opTmps op) := hok
  cases op <;> first
    | (exfalso; cases hc; done)
    | skip
  case alloc t =>
    obtain ⟨h1, ob, h2, h3⟩ := alloc_ok (μ := μ) hv
    exact ⟨h1, ob, h2, fun w => ARes.v (h3 w)⟩
  case box t x =>
    obtain ⟨h1, ob, h2, h3⟩ := box_ok hv (ev_rel hT (okT_mem (l := [x]) hok' (by simp)))
    exact ⟨h1, ob, h2, fun w => ARes.v (h3 w)⟩
  case buildSlice t k ps =>
    have hp := evp_rel hT (l := ps.toList) hok'
    obtain ⟨h1, ob, h2, h3⟩ := buildSlice_ok (pv := ps.map fun (i, x) => (i, a.eval x)) hv (by rw [Array.toList_map]; exact hp)
    exact ⟨h1, ob, h2, fun w => ARes.v (h3 w)⟩
  case makeMap t r =>
    obtain ⟨rfl, h1, ob, h2, h3⟩ := makeMap_ok (μ := μ) (t := t) hv
    exact ⟨h1, ob, h2, fun w => ARes.v (h3 w)⟩
  case makeSlice t x y =>
    have hl : okT n ([x, y].flatMap tmpOf) := hok'
    obtain ⟨h1, ob, h2, h3⟩ := makeSlice_ok hv (ev_rel hT (okT_mem hl (by simp))) (ev_rel hT (okT_mem hl (by simp)))
    exact ⟨h1, ob, h2, fun w => ARes.v (h3 w)⟩
  case convert s d x =>
    have hc' : cls P (.convert s d x) = .a := hc
    rcases convert_ok (μ := μ) hv (ev_rel hT (okT_mem (l := [x]) hok' (by simp))) with ⟨h1, h2, ob, h3, h4⟩ | ⟨h1, _⟩ | ⟨h1, _⟩
    · exact ⟨h2, ob, h3, fun w => ARes.v (h4 w)⟩
    · exfalso
      cases h2 : (sliceElem P s).isSome <;> cases h3 : (isUns P s || isUns P d) <;> simp [cls, h1, h2, h3] at hc'
    · exfalso
      cases h2 : (sliceElem P s).isSome <;> cases h3 : (isUns P s || isUns P d) <;> simp [cls, h1, h2, h3] at hc'
  case call c =>
    have hc' : cls P (.call c) = .a := hc
    obtain ⟨callee, args, ats⟩ := c
    cases callee with
    | value f => cases hc'
    | invoke r m => cases hc'
    | builtin b => cases b <;> cases hc'

/-- operations that act on memory -/
theorem opW_ok (hr : HRel μ h w) (hT : TRel μ T n a.tmps) (o : Oper) (hok : okT n (opTmps o.op)) (hc : cls P o.op = .w) (hv : opV P T h o.op = .val v h') : NRes P h μ w (execOp a.eval o) v h' := by
  obtain ⟨dst, op, ty, pos, after, guard⟩ := o
  have hok' : okT n (opTmps op) := hok
  have unit : ∀ {x : Option H}, rh x = .val v h' → ∀ {y : Sem Unit}, (x = some h' → ∃ w', y.run P w = .ok () w' ∧ HRel μ h' w' ∧ Fr h μ w h' μ w') → NRes P h μ w (do y; pure Next.skip) v h' := by
    intro x hx y hy
    cases x with
    | none => cases hx
    | some h1 => cases hx; exact NRes.u (hy rfl)
  cases op <;> first
    | (exfalso; cases hc; done)
    | (exfalso; cases hv; done)
    | skip
  case store t x y =>
    have hl : okT n ([x, y].flatMap tmpOf) := hok'
    exact unit hv fun hx => by
      obtain ⟨w', h1, h2, h3, _⟩ := storeV_ok (P := P) hr hx (ev_rel hT (okT_mem hl (by simp))) (ev_rel hT (okT_mem hl (by simp)))
      exact ⟨w', h1, h2, h3⟩
  case mapUpdate t x k y =>
    have hl : okT n ([x, k, y].flatMap tmpOf) := hok'
    exact unit hv fun hx => update_ok hr hx (ev_rel hT (okT_mem hl (by simp))) (ev_rel hT (okT_mem hl (by simp))) (ev_rel hT (okT_mem hl (by simp)))
  case range t x => exact NRes.v (range_ok hr hv (ev_rel hT (okT_mem (l := [x]) hok' (by simp))))
  case next it b =>
    have := next_ok (P := P) hr (I := ev T it) (b := b) (iv := a.eval it) ty (ev_rel hT (okT_mem (l := [it]) hok' (by simp)))
    have hv' : next (ev T it) b h = .val v h' := hv
    rw [hv'] at this
    exact NRes.v this
  case convert s d x =>
    have hc' : cls P (.convert s d x) = .w := hc
    exfalso
    unfold cls at hc'
    cases h1 : (sliceElem P d).isSome <;> cases h2 : (sliceElem P s).isSome <;> cases h3 : (isUns P s || isUns P d) <;> simp_all
  case call c =>
    have hc' : cls P (.call c) = .w := hc
    obtain ⟨callee, args, ats⟩ := c
    have hl : okT n ((Call.operands ⟨callee, args, ats⟩).toList.flatMap tmpOf) := hok'
    cases callee with
    | value f => cases hv
    | invoke r m => cases hv
    | builtin b =>
    have hl' : okT n (args.toList.flatMap tmpOf) := by simpa [Call.operands] using hl
    have hrr := evs_rel hT (l := args.toList) hl'
    have hv' : builtin P b ats (evs T args) h = .val v h' := hv
    unfold builtin at hv'
    cases ht : nth? ats.toList 0 with
    | none => rw [ht] at hv'; cases hv'
    | some t =>
    rw [ht] at hv'
    have hv'' : builtinAt P b t (getO (nth? ats.toList 1) 0) (evs T args) h = .val v h' := hv'
    have ht0 : ats[0]? = some t := by rw [nth?_eq] at ht; simpa using ht
    have hr' : All2 (VRel μ) (evs T args) (args.map a.eval).toList := by rw [Array.toList_map]; exact hrr
    cases b <;> first
      | (exfalso; cases hc'; done)
      | (exfalso; cases hv''; done)
      | skip
    case append =>
      obtain ⟨X, Y, hX, h1⟩ := arg2_ne (f := fun x y => append P t (getO (nth? ats.toList 1) 0) x y h) hv'' (by simp)
      obtain ⟨xv, yv, hxv, h2, h2'⟩ := args2 hr' hX
      have hq1 : ∀ q, ats[1]? = some q → q = getO (nth? ats.toList 1) 0 := by
        intro q hq
        have : ats.toList[1]? = some q := by simpa using hq
        rw [getO_eq, nth?_eq, this]
        rfl
      obtain ⟨rv, w', μ', h3, h4, h5, h6⟩ := append_ok (ty := ty) (ts := ats) hr ht0 hq1 h1 h2 h2'
      refine ⟨_, rv, w', μ', ?_, .inl rfl, h4, h5, h6⟩
      rw [run_builtinOp (x := Builtin.append_ ats ty) (fun _ _ => rfl) w, hxv]
      exact run_v h3
    case unsafeString =>
      obtain ⟨X, Y, hX, h1⟩ := arg2_ne (f := fun x y => unsStr P t x y h) hv'' (by simp)
      obtain ⟨xv, yv, hxv, h2, h2'⟩ := args2 hr' hX
      obtain ⟨rv, w', μ', h3, h4, h5, h6⟩ := unsStr_ok (ty := ty) (ts := ats) hr ht0 h1 h2 h2'
      refine ⟨_, rv, w', μ', ?_, .inl rfl, h4, h5, h6⟩
      rw [run_builtinOp (x := Builtin.unsafeString_ ats ty) (fun _ _ => rfl) w, hxv]
      exact run_v h3

  case defer c =>
    exfalso
    obtain ⟨callee, args, ats⟩ := c
    cases callee <;> cases hv

/-- an operation that comes to one end -/
theorem op_ok (hr : HRel μ h w) (hT : TRel μ T n a.tmps) (o : Oper) (hok : okT n (opTmps o.op)) (hv : opV P T h o.op = .val v h') : NRes P h μ w (execOp a.eval o) v h' := by
  cases hc : cls P o.op with
  | q => obtain ⟨rfl, h2⟩ := opQ_ok hT o hok hc hv; exact LRes.done hr h2.l
  | l => obtain ⟨rfl, h2⟩ := opL_ok hr hT o hok hc hv; exact LRes.done hr h2
  | a => obtain ⟨h1, ob, rfl, h2⟩ := opA_ok hT o hok hc hv; exact ARes.done hr h1 (h2 w)
  | w => exact opW_ok hr hT o hok hc hv

/-- .. to one of several -/
theorem opF_ok (hr : HRel μ h w) (hT : TRel μ T n a.tmps) (o : Oper) (hok : okT n (opTmps o.op)) (hn : opNo o.op = 1) {l : List (V × H)} (hv : opV P T h o.op = .fork l) : ∃ p ∈ l, NRes P h μ w (execOp a.eval o) p.1 p.2 := by
  obtain ⟨dst, op, ty, pos, after, guard⟩ := o
  have hok' : okT n (opTmps op) := hok
  have hn' : opNo op = 1 := hn
  cases op <;> first
    | (exfalso; cases hn'; done)
    | skip
  case next it b =>
    have := next_ok (P := P) hr (I := ev T it) (b := b) (iv := a.eval it) ty (ev_rel hT (okT_mem (l := [it]) hok' (by simp)))
    have hv' : next (ev T it) b h = .fork l := hv
    rw [hv'] at this
    obtain ⟨p, h1, h2⟩ := this
    exact ⟨p, h1, NRes.v h2⟩
  case call c =>
    exfalso
    obtain ⟨callee, args, ats⟩ := c
    cases callee <;> cases hn'
  case defer c =>
    exfalso
    obtain ⟨callee, args, ats⟩ := c
    cases callee <;> cases hn'

end

end Go.Sx
