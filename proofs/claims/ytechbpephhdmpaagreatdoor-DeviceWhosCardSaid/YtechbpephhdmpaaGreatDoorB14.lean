/-
  SOUNDNESS OF THE ABSTRACT INTERPRETER, fourteenth part: operations by their class.
-/
import Derived.Test.YtechbpephhdmpaaGreatDoorB13
import Derived.Lib.UnsafeStr
namespace Go.Sx

section
variable {P : Program} {w : World} {μ : Mu} {h h' : H} {T : Tr V} {n : Nat} {a : Act}

/-! ### operands -/

def okT (n : Nat) (l : List Tmp) : Prop := ∀ t ∈ l, t < n

theorem ev_rel (hT : TRel μ T n a.tmps) {x : Operand} (hx : okT n (tmpOf x)) : VRel μ (ev T x) (a.eval x) := by
  cases x with
  | tmp t => exact hT.rel t (hx t (by simp [tmpOf]))
  | const v => exact ofVal_rel v
  | global g => trivial
  | func f => exact ⟨#[], #[], rfl, trivial, trivial⟩

theorem evs_rel (hT : TRel μ T n a.tmps) {l : List Operand} (hl : okT n (l.flatMap tmpOf)) : All2 (VRel μ) (mapl (ev T) l) (l.map a.eval) := by
  rw [mapl_eq]
  induction l with
  | nil => trivial
  | cons x l ih =>
    refine ⟨ev_rel hT fun t ht => hl t ?_, ih fun t ht => hl t ?_⟩
    · rw [List.flatMap_cons]; exact List.mem_append_left _ ht
    · rw [List.flatMap_cons]; exact List.mem_append_right _ ht

theorem evp_rel (hT : TRel μ T n a.tmps) {l : List (Nat × Operand)} (hl : okT n (l.flatMap fun (_, x) => tmpOf x)) :
    All2 (PRel μ) (mapl (fun p => (p.1, ev T p.2)) l) (l.map fun (i, x) => (i, a.eval x)) := by
  rw [mapl_eq]
  induction l with
  | nil => trivial
  | cons x l ih =>
    refine ⟨⟨rfl, ev_rel hT fun t ht => hl t ?_⟩, ih fun t ht => hl t ?_⟩
    · rw [List.flatMap_cons]; exact List.mem_append_left _ ht
    · rw [List.flatMap_cons]; exact List.mem_append_right _ ht

theorem evo_rel (hT : TRel μ T n a.tmps) {x : Option Operand} (hx : ∀ y, x = some y → okT n (tmpOf y)) : ORelV μ (evo T x) (x.map a.eval) := by
  cases x with
  | none => trivial
  | some x => exact ev_rel hT (hx x rfl)

/-! ### what an operation comes to -/

/-- a value, whatever the world, which stays -/
def QRes (P : Program) (μ : Mu) (x : Sem Next) (v : V) : Prop := ∀ w, ∃ rv, x.run P w = .ok (.value rv) w ∧ VRel μ v rv
/-- a value in this world, which stays -/
def LRes (P : Program) (μ : Mu) (w : World) (x : Sem Next) (v : V) : Prop := ∃ rv, x.run P w = .ok (.value rv) w ∧ VRel μ v rv
/-- a new object -/
def ARes (P : Program) (μ : Mu) (n : Nat) (w : World) (x : Sem Next) (v : V) (o : O) : Prop :=
  ∃ obj sz rv k, x.run P w = .ok (.value rv) { w.alloc obj with drawn := w.drawn + k } ∧
    ∀ μ' w', Mu.le μ μ' → μ' n = some ⟨w.heap.size, sz⟩ → w'.heap[w.heap.size]? = some obj → VRel μ' v rv ∧ ORel μ' ⟨w.heap.size, sz⟩ w' o
/-- done: a value, or nothing -/
def NRes (P : Program) (h : H) (μ : Mu) (w : World) (x : Sem Next) (v : V) (h' : H) : Prop :=
  ∃ nx rv w' μ', x.run P w = .ok nx w' ∧ (nx = .value rv ∨ (nx = .skip ∧ rv = undef)) ∧ VRel μ' v rv ∧ HRel μ' h' w' ∧ Fr h μ w h' μ' w'

theorem run_v {x : Sem Value} {rv : Value} {w w' : World} (hx : x.run P w = .ok rv w') : (do pure (Next.value (← x)) : Sem Next).run P w = .ok (.value rv) w' := by
  simp only [Sem.run_bind, hx, Result.andThen_ok, Sem.run_pure]
theorem run_u {x : Sem Unit} {w w' : World} (hx : x.run P w = .ok () w') : (do x; pure Next.skip : Sem Next).run P w = .ok .skip w' := by
  simp only [Sem.run_bind, hx, Result.andThen_ok, Sem.run_pure]

theorem QRes.v {x : Sem Value} {v : V} (hx : ∀ w, ∃ rv, x.run P w = .ok rv w ∧ VRel μ v rv) : QRes P μ (do pure (Next.value (← x))) v := fun w =>
  let ⟨rv, h1, h2⟩ := hx w; ⟨rv, run_v h1, h2⟩
theorem QRes.pure {v : V} {rv : Value} (hv : VRel μ v rv) : QRes P μ (Pure.pure (Next.value rv)) v := fun _ => ⟨rv, rfl, hv⟩
theorem LRes.v {x : Sem Value} {v : V} (hx : ∃ rv, x.run P w = .ok rv w ∧ VRel μ v rv) : LRes P μ w (do pure (Next.value (← x))) v :=
  let ⟨rv, h1, h2⟩ := hx; ⟨rv, run_v h1, h2⟩
theorem ARes.v {x : Sem Value} {v : V} {n : Nat} {o : O} (hx : NewRes P μ n w x v o) : ARes P μ n w (do pure (Next.value (← x))) v o :=
  let ⟨obj, sz, rv, k, h1, h2⟩ := hx; ⟨obj, sz, rv, k, run_v h1, h2⟩
theorem NRes.v {x : Sem Value} {v : V} (hx : Done P h μ w x v h') : NRes P h μ w (do pure (Next.value (← x))) v h' :=
  let ⟨rv, w', μ', h1, h2, h3, h4⟩ := hx; ⟨_, rv, w', μ', run_v h1, .inl rfl, h2, h3, h4⟩
theorem NRes.u {x : Sem Unit} (hx : ∃ w', x.run P w = .ok () w' ∧ HRel μ h' w' ∧ Fr h μ w h' μ w') : NRes P h μ w (do x; pure Next.skip) undef' h' :=
  let ⟨w', h1, h3, h4⟩ := hx; ⟨_, undef, w', μ, run_u h1, .inr ⟨rfl, rfl⟩, VRel.undef, h3, h4⟩

theorem LRes.done (hr : HRel μ h w) {x : Sem Next} {v : V} (hx : LRes P μ w x v) : NRes P h μ w x v h :=
  let ⟨rv, h1, h2⟩ := hx; ⟨_, rv, w, μ, h1, .inl rfl, h2, hr, Fr.refl _ _ _⟩
theorem QRes.l {x : Sem Next} {v : V} (hx : QRes P μ x v) : LRes P μ w x v := hx w
theorem ARes.done (hr : HRel μ h w) (hn : h.n < most) {x : Sem Next} {v : V} {o : O} (hx : ARes P μ h.n w x v o) : NRes P h μ w x v (h.add o) := by
  obtain ⟨obj, sz, rv, k, h1, h2⟩ := hx
  have hle := Mu.le_add μ ⟨w.heap.size, sz⟩ hr.fresh
  have hnew : ({ w.alloc obj with drawn := w.drawn + k } : World).heap[w.heap.size]? = some obj := by show (w.heap.push obj)[w.heap.size]? = some obj; simp
  obtain ⟨h3, h4⟩ := h2 _ { w.alloc obj with drawn := w.drawn + k } hle (Mu.add_self _ _ _) hnew
  refine ⟨_, rv, _, _, h1, .inl rfl, h3, ?_⟩
  exact hr.add hn rfl (by simp) (fun b hb => by show (w.heap.push obj)[b]? = _; simp [Array.getElem?_push, Nat.ne_of_lt hb]) h4 rfl rfl rfl

/-! ### unsafe.String -/

theorem unsStr_ok (hr : HRel μ h w) {t ty : TypeId} {ts : Array TypeId} {X Y v : V} {xv yv : Value} (ht : ts[0]? = some t) (e : unsStr P t X Y h = .val v h') (hx : VRel μ X xv) (hy : VRel μ Y yv) :
    Done P h μ w (Builtin.unsafeString_ ts ty #[xv, yv]) v h' := by
  obtain ⟨k, n, rfl, e2⟩ := vNat_ne (d := RO.bad) e (by simp)
  cases n with
  | zero => cases e2
  | succ n =>
  obtain ⟨i, o, rfl, e3⟩ := vPtr_ne (d := RO.bad) e2 (by simp)
  cases o with
  | succ o => cases e3
  | zero =>
  obtain ⟨el, cs, fz, hg, e4⟩ := H.get_ne (d := RO.bad) e3 (by simp)
  unfold unsIn at e4
  cases hb : andb (Nat.ble (n + 1) 1048576) (andb (Option.casesOn (ptrTo P t) false (fun u => Nat.beq u el)) (oneCell P el)) with
  | false => rw [hb] at e4; cases e4
  | true =>
  rw [hb] at e4
  rw [andb_eq, andb_eq, Bool.and_eq_true, Bool.and_eq_true, ble_iff] at hb
  obtain ⟨b1, b2, b3⟩ := hb
  cases hp : ptrTo P t with
  | none => rw [hp] at b2; cases b2
  | some u =>
  rw [hp] at b2
  have b2' : Nat.beq u el = true := b2
  rw [Nat.beq_eq] at b2'
  have b2'' : u = el := b2'
  subst b2''
  unfold oneCell at b3
  cases hs : sizeOf? P u with
  | none => rw [hs] at b3; cases b3
  | some s =>
  rw [hs] at b3
  have b3' : Nat.beq s 1 = true := b3
  rw [Nat.beq_eq] at b3'
  subst b3'
  cases hq : ap (sub? cs 0 (n + 1)) (mapo byteOf) with
  | none => rw [hq] at e4; cases e4
  | some bs =>
  rw [hq] at e4
  cases e4
  obtain ⟨cells, q1, q2⟩ := ap_some hq
  obtain ⟨m, hm, rfl⟩ := ptr_rel hx
  cases one_rel hy
  obtain ⟨c, fr, r1, r2, r3, r4, r5⟩ := hr.row hm hg
  obtain ⟨vs, k1, k2, k3⟩ := r2.sub (by omega) q1
  obtain ⟨i1, i2⟩ := bytes_some q2 k2
  have hlen : bs.length = n + 1 := by rw [← k1, i1, List.length_map]
  have hle : n + 1 ≤ c.size := by
    obtain ⟨_, hh⟩ := sub?_some q1
    rcases hh with hh | hh
    · omega
    · omega
  have hbytes : (loadBytes ⟨m.b, 0, none⟩ .empty (n + 1)).run P w = .ok (bytesOf bs) w := by
    have hb := Go.Lib.run_loadBytes (P := P) w (bs.map UInt8.ofNat) ⟨m.b, 0, none⟩ .empty (fun j x hj => by
      rw [Addr.add_lit, cell_row r1]
      apply k3
      rw [i1, List.getElem?_map]
      rw [List.getElem?_map] at hj
      cases hbj : bs[j]? with
      | none => rw [hbj] at hj; cases hj
      | some q =>
        rw [hbj] at hj
        cases hj
        have := i2 q (List.mem_of_getElem? hbj)
        simp [Nat.mod_eq_of_lt this])
    rw [List.length_map, hlen] at hb
    rw [hb, show (ByteArray.empty.data : Array UInt8) = #[] from rfl, Array.empty_append]
    rfl
  have hl := liesAt_head (P := P) (count := c.size) (cellsOf_some hs) (by decide) (n + 1) (by omega)
  let w' := w.freeze ⟨m.b, 0, none⟩ (n + 1)
  have hw' : w' = { w with heap := w.heap.modify m.b fun
      | .cells c elem (lo, hi) => .cells c elem (if lo == hi then (0, 0 + (n + 1)) else (min lo 0, max hi (0 + (n + 1))))
      | o => o } := by
    show World.freeze _ _ _ = _
    unfold World.freeze
    rw [if_neg (by omega)]
    rfl
  have hrow : ∃ fr', w'.heap[m.b]? = some (.cells c u fr') := by
    rw [hw']
    show ∃ fr', (w.heap.modify m.b _)[m.b]? = _
    rw [Array.getElem?_modify, if_pos rfl, r1]
    exact ⟨_, rfl⟩
  obtain ⟨fr', hrow⟩ := hrow
  obtain ⟨p1, p2⟩ := hr.put (w' := w') (o := .row u cs true) hm (by rw [hg]; simp) (by rw [hw']; simp) (fun b hb' => by
      rw [hw']
      show (w.heap.modify m.b _)[b]? = _
      rw [Array.getElem?_modify, if_neg (fun e => hb' e.symm)]) ⟨c, fr', hrow, r2, r3, r4, fun hh => by cases hh⟩ (by rw [hw']) (by rw [hw']) (by rw [hw'])
  refine ⟨.string (bytesOf bs), w', μ, ?_, rfl, p1, p2⟩
  have hdef : Builtin.unsafeString_ ts ty #[.pointer (some ⟨m.b, 0, none⟩), .int k (Int.ofNat (n + 1))] =
      (do
        let some pt := ts[0]? | stuck "unsafe.String: no argument types"
        if (Int.ofNat (n + 1)) < 0 then runtimePanic (.error "unsafe.String: len out of range")
        if (Int.ofNat (n + 1)) > IntKind.i64.max then unsupported (.unsafePointer "String: a length above the largest int")
        if (Int.ofNat (n + 1)) = 0 then pure (.string .empty)
        else if ← variablesAt ⟨m.b, 0, none⟩ (← elemOf pt) (n + 1) then do
          let s ← loadBytes ⟨m.b, 0, none⟩ .empty (n + 1)
          freeze ⟨m.b, 0, none⟩ (n + 1)
          pure (.string s)
        else unsupported (.unsafePointer "String: not so many bytes at ptr")) := rfl
  have g1 : ¬ (Int.ofNat (n + 1) < 0) := by show ¬ (((n + 1 : Nat) : Int) < 0); omega
  have g2 : ¬ (Int.ofNat (n + 1) > IntKind.i64.max) := by rw [IntKind.max_i64]; show ¬ (((n + 1 : Nat) : Int) > _); omega
  have g3 : ¬ (Int.ofNat (n + 1) = 0) := by show ¬ (((n + 1 : Nat) : Int) = 0); omega
  rw [hdef]
  simp only [ht, g1, g2, g3, if_false, Sem.run_bind, elemOf, run_underlying' (ptrTo_some hp), Result.andThen_ok, Sem.run_pure, variablesAt, run_program, run_shape, shape_row r1, cellsOf_some hs, hl, if_true, hbytes, run_freeze]
  rfl

end

end Go.Sx
