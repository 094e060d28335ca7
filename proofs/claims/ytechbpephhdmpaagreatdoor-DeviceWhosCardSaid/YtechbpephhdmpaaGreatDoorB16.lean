/-
  SOUNDNESS OF THE ABSTRACT INTERPRETER, sixteenth part: states, ends; regions whose order is fixed.
-/
import Derived.Test.YtechbpephhdmpaaGreatDoorB15
import Derived.TacticsIn
namespace Go.Sx

/-! ### ends -/

def Incl (r : R) (L : List (Ex × St)) : Prop := ∃ l, r.list = some l ∧ ∀ p ∈ l, p ∈ L

theorem Incl.bad {m : String} {L : List (Ex × St)} (h : Incl (.bad m) L) : False := by obtain ⟨l, h, _⟩ := h; cases h
theorem Incl.one {e : Ex} {s : St} {L : List (Ex × St)} (h : Incl (.one e s) L) : (e, s) ∈ L := by
  obtain ⟨l, h, h2⟩ := h
  cases h
  exact h2 _ (by simp)

theorem flat_eq {α : Type} (l : List (List α)) : flat l = l.flatten := by
  induction l with
  | nil => rfl
  | cons x l ih =>
    have : flat (x :: l) = app x (flat l) := rfl
    rw [this, app_eq, ih, List.flatten_cons]

theorem mapo_mem {α β : Type} {f : α → Option β} {a : List α} {b : List β} (h : mapo f a = some b) {x : α} (hx : x ∈ a) : ∃ y ∈ b, f x = some y := by
  have := mapo_some h
  have h1 : f x ∈ a.map f := List.mem_map_of_mem hx
  rw [this] at h1
  obtain ⟨y, h2, h3⟩ := List.mem_map.1 h1
  exact ⟨y, h2, h3.symm⟩

theorem Incl.all {l : List R} {L : List (Ex × St)} (h : Incl (R.all l) L) {r : R} (hr : r ∈ l) : Incl r L := by
  unfold R.all at h
  cases hm : mapo R.list l with
  | none => rw [hm] at h; exact h.bad.elim
  | some ls =>
    rw [hm] at h
    obtain ⟨l', h1, h2⟩ := h
    cases h1
    obtain ⟨y, hy, hfy⟩ := mapo_mem hm hr
    refine ⟨y, hfy, fun p hp => h2 p ?_⟩
    rw [flat_eq]
    exact List.mem_flatten.2 ⟨y, hy, hp⟩

theorem RC.all_list {l : List RC} {L : List (V × H)} (h : (RC.all l).list = some L) {r : RC} (hr : r ∈ l) : ∃ l', r.list = some l' ∧ ∀ p ∈ l', p ∈ L := by
  unfold RC.all at h
  cases hm : mapo RC.list l with
  | none => rw [hm] at h; cases h
  | some ls =>
    rw [hm] at h
    have h' : some (flat ls) = some L := h
    cases h'
    obtain ⟨y, hy, hfy⟩ := mapo_mem hm hr
    refine ⟨y, hfy, fun p hp => ?_⟩
    rw [flat_eq]
    exact List.mem_flatten.2 ⟨y, hy, hp⟩

theorem Incl.bind {r : R} {k : St → R} {L : List (Ex × St)} (h : Incl (r.bind k) L) : ∃ l, r.list = some l ∧ ∀ p ∈ l, Incl (R.thn k p.1 p.2) L := by
  cases r with
  | bad m => exact h.bad.elim
  | one e s => exact ⟨[(e, s)], rfl, fun p hp => by simp at hp; subst hp; exact h⟩
  | many l =>
    have h' : Incl (R.all (mapl (fun p => R.thn k p.1 p.2) l)) L := h
    refine ⟨l, rfl, fun p hp => h'.all ?_⟩
    rw [mapl_eq]
    exact List.mem_map_of_mem (f := fun p : Ex × St => R.thn k p.1 p.2) hp

theorem Incl.bindR {r : RC} {k : V → H → R} {L : List (Ex × St)} (h : Incl (r.bindR k) L) : ∃ l, r.list = some l ∧ ∀ p ∈ l, Incl (k p.1 p.2) L := by
  cases r with
  | bad m => exact h.bad.elim
  | one v hh => exact ⟨[(v, hh)], rfl, fun p hp => by simp at hp; subst hp; exact h⟩
  | many l =>
    have h' : Incl (R.all (mapl (fun p => k p.1 p.2) l)) L := h
    refine ⟨l, rfl, fun p hp => h'.all ?_⟩
    rw [mapl_eq]
    exact List.mem_map_of_mem (f := fun p : V × H => k p.1 p.2) hp

/-! ### states -/

def Ex.toExit (e : Ex) : Exit := match e with
  | .normal => .normal
  | .exit id => .exit id
  | .ret => .ret

section
variable (P : Program)

/-- a deferred call, or the mark of a loop over a function -/
def DRel (μ : Mu) : D → Deferred → Prop
  | .call f args, d => ∃ fv argv, VRel μ f fv ∧ All2 (VRel μ) args argv.toList ∧ Deferred.ofValue fv argv = pure d
  | .mark r, d => ∃ m, μ r = some m ∧ d.target = .collected m.b

structure SOk (μ : Mu) (n : Nat) (s : St) (a : Act) (w : World) : Prop where
  hT : TRel μ s.T n a.tmps
  hD : All2 (DRel μ) s.ds a.defers
  hH : HRel μ s.h w

/-- at every end what is asked holds -/
def Sat (n : Nat) (h : H) (μ : Mu) (w : World) (L : List (Ex × St)) (Q : Exit → Act → World → Prop) : Prop :=
  ∀ e s, (e, s) ∈ L → ∀ a' w' μ', SOk μ' n s a' w' → Fr h μ w s.h μ' w' → Q e.toExit a' w'

def CallPost (h : H) (μ : Mu) (w : World) (l : List (V × H)) (R : Value → World → Prop) : Prop :=
  ∀ v h', (v, h') ∈ l → ∀ rv w' μ', VRel μ' v rv → HRel μ' h' w' → Fr h μ w h' μ' w' → R rv w'

/-- what a call's first step must come to -/
def Upon (R : Value → World → Prop) : Result Next → Prop
  | .ok (.value v) w' => R v w'
  | .ok (.enter f args) w' => ∀ k, CallsIn Fence.wide k P f args w' fun
      | .returned v, w'' => R v w''
      | _, _ => False
  | .ok (.round l f tmps assign body) w' => ∀ k, RoundIn Fence.wide k P l f tmps assign body w' fun
      | .returned v, w'' => R v w''
      | _, _ => False
  | _ => False

def CallOk (ih : Ev) : Prop := ∀ f args h l, (ih.call f args h).list = some l → ∀ fv argv μ w, VRel μ f fv → All2 (VRel μ) args argv.toList → HRel μ h w →
  ∃ d, Deferred.ofValue fv argv = pure d ∧ ∀ R, CallPost h μ w l R → Upon P R ((invoke d.target d.args).run P w)

/-- the fences at which code is walked -/
def FOk (F : Fence) (cx : Bool) : Prop := (F = Fence.wide ∧ cx = false) ∨ ∃ l, F = Fence.wide.inRound l ∧ cx = true

theorem FOk.fn {F : Fence} {cx : Bool} (h : FOk F cx) (f : FuncId) : F.fn f := by
  rcases h with ⟨rfl, _⟩ | ⟨l, rfl, _⟩ <;> trivial
theorem FOk.depth {F : Fence} {cx : Bool} (h : FOk F cx) : F.depth.isSome = true → False := by
  rcases h with ⟨rfl, _⟩ | ⟨l, rfl, _⟩ <;> simp [Fence.wide]
theorem FOk.calls {F : Fence} {cx : Bool} (h : FOk F cx) {k : Nat} {f : FuncId} {args : Array Value} {w : World} {R : Ending → World → Prop} (hc : CallsIn Fence.wide k P f args w R) : CallsIn F k P f args w R := by
  rcases h with ⟨rfl, _⟩ | ⟨l, rfl, _⟩
  · exact hc
  · exact hc
theorem FOk.round {F : Fence} {cx : Bool} (h : FOk F cx) {k : Nat} {l : Nat} {f : FuncId} {tmps : Array Value} {c b : Code} {w : World} {R : Ending → World → Prop} (hc : RoundIn Fence.wide k P l f tmps c b w R) : RoundIn F k P l f tmps c b w R := by
  rcases h with ⟨rfl, _⟩ | ⟨l, rfl, _⟩
  · exact hc
  · exact hc
end

section
variable {P : Program} {F : Fence} {cx : Bool} {n k : Nat} {μ : Mu} {s : St} {a : Act} {w : World}

theorem DRel.mono {μ' : Mu} (hm : Mu.le μ μ') {x : D} {d : Deferred} (hr : DRel μ x d) : DRel μ' x d := by
  cases x with
  | call f args => obtain ⟨fv, argv, h1, h2, h3⟩ := hr; exact ⟨fv, argv, h1.mono hm, h2.mono fun _ _ => VRel.mono hm, h3⟩
  | mark r => obtain ⟨m, h1, h2⟩ := hr; exact ⟨m, hm _ _ h1, h2⟩

theorem Sat.from {h h' : H} {μ' : Mu} {w' : World} {L : List (Ex × St)} {Q : Exit → Act → World → Prop} (hs : Sat n h μ w L Q) (hf : Fr h μ w h' μ' w') : Sat n h' μ' w' L Q :=
  fun e s he a' w2 μ2 h1 h2 => hs e s he a' w2 μ2 h1 (hf.trans h2)

/-! ### guards -/

def boolOf : Value → Option Bool
  | .bool b => some b
  | _ => none
theorem yielded_eq (ops : Array Oper) (tmps : Array Value) (j : Nat) {x : Value} (h : ((ops[j]?).bind (·.dst)).bind (tmps[·]?) = some x) : yielded ops tmps j = boolOf x := by
  unfold yielded
  rw [h]
  cases x <;> rfl

theorem guardV_ok {want b : Bool} {v : V} {x : Value} (h : guardV want v = some b) (hv : VRel μ v x) : (boolOf x == some want) = b := by
  cases v with
  | any => cases h
  | tup l =>
    cases h
    obtain ⟨vs, rfl, _⟩ := hv
    rfl
  | u u =>
    by_cases hb : ∃ c, u = .s (.bool c)
    · obtain ⟨c, rfl⟩ := hb
      have h' : some (eqB c want) = some b := h
      cases h'
      cases hv
      rw [eqB_eq]
      cases c <;> cases want <;> rfl
    · have h' : b = false := by
        cases u with
        | agg l => cases h; rfl
        | s y => cases y <;> first | (cases h; rfl) | exact absurd ⟨_, rfl⟩ hb
      rw [h']
      have hx : ∀ c, x ≠ .bool c := by
        intro c hc
        subst hc
        cases u with
        | agg l => obtain ⟨cs, h1, _⟩ := hv; cases h1
        | s y =>
          have hv' : SRel μ y (.bool c) := hv
          cases y <;> simp only [SRel, strV, ptrV] at hv' <;> first
            | exact hb ⟨_, rfl⟩
            | (cases hv'; done)
            | (obtain ⟨m, _, h2⟩ := hv'; cases h2; done)
            | (obtain ⟨m, a, cap, _, h2, _⟩ := hv'; cases h2; done)
            | (obtain ⟨x, y, h2, _⟩ := hv'; cases h2; done)
      cases x <;> first | rfl | exact absurd rfl (hx _)

theorem wanted_ok {ops : Array Oper} (hok : ∀ o ∈ ops.toList, okOper n o = true) (hT : TRel μ s.T n a.tmps) {o : Oper} {b : Bool} (h : wanted ops.toList s.T o = some b) :
    Region.wanted o (yielded ops a.tmps) = b := by
  unfold wanted at h
  unfold Region.wanted
  cases hg : o.guard with
  | none => rw [hg] at h; cases h; rfl
  | some p =>
    obtain ⟨j, want⟩ := p
    rw [hg] at h
    have h' : (Option.casesOn (nth? ops.toList j) (some false) (fun g => guardBy s.T want g) : Option Bool) = some b := h
    show (yielded ops a.tmps j == some want) = b
    cases hj : nth? ops.toList j with
    | none =>
      rw [hj] at h'
      cases h'
      rw [nth?_eq] at hj
      have hj' : ops[j]? = none := by simpa using hj
      simp [yielded, hj']
    | some g =>
      rw [hj] at h'
      have h2 : guardBy s.T want g = some b := h'
      rw [nth?_eq] at hj
      have hmem := List.mem_of_getElem? hj
      have hj' : ops[j]? = some g := by simpa using hj
      unfold guardBy at h2
      cases hd : g.dst with
      | none => rw [hd] at h2; cases h2; simp [yielded, hj', hd]
      | some t =>
        rw [hd] at h2
        have h3 : guardV want (s.T.get .any (tpath t)) = some b := h2
        have hlt : t < n := by
          have := hok g hmem
          unfold okOper at this
          rw [andb_eq, Bool.and_eq_true, hd] at this
          have h4 : Nat.blt t n = true := this.1
          rwa [Nat.blt_eq] at h4
        have h5 := guardV_ok h3 (hT.rel t hlt)
        have hsz : t < a.tmps.size := Nat.lt_of_lt_of_le hlt hT.size
        have h6 : a.tmps[t]? = some (a.tmps.getD t undef) := by simp [hsz]
        rw [yielded_eq ops a.tmps j (x := a.tmps.getD t undef) (by rw [hj', Option.bind_some, hd, Option.bind_some]; exact h6)]
        exact h5

theorem okOper_tmps {o : Oper} (h : okOper n o = true) : okT n (opTmps o.op) := by
  unfold okOper at h
  rw [andb_eq, Bool.and_eq_true, alll_eq, List.all_eq_true] at h
  intro t ht
  have := h.2 t ht
  rwa [Nat.blt_eq] at this
theorem okOper_dst {o : Oper} (h : okOper n o = true) : ∀ t, o.dst = some t → t < n := by
  intro t ht
  unfold okOper at h
  rw [andb_eq, Bool.and_eq_true, ht] at h
  have h4 : Nat.blt t n = true := h.1
  rwa [Nat.blt_eq] at h4

theorem SOk.put {μ' : Mu} {w' : World} {h' : H} {o : Oper} (hs : SOk μ n s a w) (hle : Mu.le μ μ') (ho : okOper n o = true) {v : V} {rv : Value} (hv : VRel μ' v rv) (hh : HRel μ' h' w') :
    SOk μ' n ⟨put s.T o.dst v, s.ds, h'⟩ (a.put o.dst rv) w' := by
  refine ⟨TRel.put (hs.hT.mono hle) (okOper_dst ho) hv, ?_, hh⟩
  have : (a.put o.dst rv).defers = a.defers := by unfold Act.put; cases o.dst <;> rfl
  rw [this]
  exact hs.hD.mono fun _ _ => DRel.mono hle

end

end Go.Sx
