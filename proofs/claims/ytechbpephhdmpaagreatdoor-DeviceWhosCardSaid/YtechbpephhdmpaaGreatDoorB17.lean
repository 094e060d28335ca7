/-
  SOUNDNESS OF THE ABSTRACT INTERPRETER, seventeenth part: regions whose order is fixed.
-/
import Derived.Test.YtechbpephhdmpaaGreatDoorB16
namespace Go.Sx

section
variable {P : Program} {F : Fence} {cx : Bool} {n k : Nat} {μ : Mu} {s : St} {a : Act} {w : World} {ih : Ev} {L : List (Ex × St)} {Q : Exit → Act → World → Prop} {T : Tr V} {h h' : H}

theorem opV_defer {o : Op} {v : V} (hv : opV P T h o = .val v h') (c : Call) : o ≠ .defer c := by
  rintro rfl
  obtain ⟨callee, args, ats⟩ := c
  cases callee <;> cases hv
theorem opV_defer' {o : Op} {l : List (V × H)} (hv : opV P T h o = .fork l) (c : Call) : o ≠ .defer c := by
  rintro rfl
  obtain ⟨callee, args, ats⟩ := c
  cases callee <;> cases hv

theorem opNo_call {o : Op} (h : opNo o = 2) : ∃ f args ats, o = .call ⟨.value f, args, ats⟩ := by
  cases o <;> first
    | (cases h; done)
    | skip
  case call c =>
    obtain ⟨callee, args, ats⟩ := c
    cases callee <;> first
      | (cases h; done)
      | exact ⟨_, _, _, rfl⟩
  case defer c =>
    obtain ⟨callee, args, ats⟩ := c
    cases callee <;> cases h
theorem opNo_defer {o : Op} (h : opNo o = 3) : ∃ f args ats, o = .defer ⟨.value f, args, ats⟩ := by
  cases o <;> first
    | (cases h; done)
    | skip
  case call c =>
    obtain ⟨callee, args, ats⟩ := c
    cases callee <;> cases h
  case defer c =>
    obtain ⟨callee, args, ats⟩ := c
    cases callee <;> first
      | (cases h; done)
      | exact ⟨_, _, _, rfl⟩

/-- what a call comes to, for the operation that makes it -/
theorem Upon.uponIn (hF : FOk F cx) {o : Oper} {next : Act → World → Prop} {R : Value → World → Prop} {r : Result Next} (hu : Upon P R r) (hR : ∀ v w', R v w' → next (a.put o.dst v) w') : o.uponIn F k P a next Q r := by
  cases r with
  | halt x w' => exact hu.elim
  | ok x w' =>
    cases x <;> first
      | (exact hu.elim; done)
      | skip
    case value v => exact hR _ _ hu
    case enter f args =>
      rw [Oper.uponIn_enter]
      refine ⟨fun hd => (hF.depth hd).elim, hF.calls P (CallsIn.mono (hu _) fun e w'' he => ?_)⟩
      cases e with
      | returned v => exact hR _ _ he
      | panicked c => exact he.elim
      | outgrown => exact he.elim
    case round l f tmps c b =>
      rw [Oper.uponIn_round]
      refine ⟨fun hd => (hF.depth hd).elim, hF.round P (RoundIn.mono (hu _) fun e w'' he => ?_)⟩
      cases e with
      | returned v => exact hR _ _ he
      | panicked c => exact he.elim
      | outgrown => exact he.elim

/-- a call's operands -/
theorem call_ok (hih : CallOk P ih) (hT : TRel μ T n a.tmps) (hH : HRel μ h w) {dst : Option Tmp} {f : Operand} {args : Array Operand} {ats : Array TypeId} {ty : TypeId} {pos : String} {after : Array Edge} {guard : Option (Nat × Bool)}
    (hok : okT n (opTmps (.call ⟨.value f, args, ats⟩))) {l : List (V × H)} (hl : (ih.call (ev T f) (evs T args) h).list = some l) {R : Value → World → Prop} (hR : CallPost h μ w l R) :
    Upon P R ((execOp a.eval ⟨dst, .call ⟨.value f, args, ats⟩, ty, pos, after, guard⟩).run P w) := by
  have hl' : okT n (([f] ++ args.toList).flatMap tmpOf) := by
    have h1 : okT n ((Call.operands ⟨.value f, args, ats⟩).toList.flatMap tmpOf) := hok
    simpa [Call.operands] using h1
  have r1 := ev_rel hT (x := f) (okT_mem hl' (by simp))
  have r2 := evs_rel hT (l := args.toList) (by rw [List.flatMap_append] at hl'; exact mem_okT hl' fun t ht => List.mem_append_right _ ht)
  obtain ⟨d, h1, h2⟩ := hih _ _ _ _ hl (a.eval f) (args.map a.eval) μ w r1 (by rw [Array.toList_map]; exact r2) hH
  have : (execOp a.eval ⟨dst, .call ⟨.value f, args, ats⟩, ty, pos, after, guard⟩).run P w = (invoke d.target d.args).run P w := by
    simp only [execOp, resolve, h1, Sem.run_bind, Sem.run_pure, Result.andThen_ok]
  rw [this]
  exact h2 R hR

theorem about_ok (hF : FOk F cx) (o : Oper) : ∀ f, o.about P w a.eval = some f → F.fn f := fun f _ => hF.fn f

theorem NRes.upon {o : Oper} {v : V} {next : Act → World → Prop} (hx : NRes P h μ w (execOp a.eval o) v h') (hk : ∀ rv w' μ', VRel μ' v rv → HRel μ' h' w' → Fr h μ w h' μ' w' → next (a.put o.dst rv) w') :
    o.uponIn F k P a next Q ((execOp a.eval o).run P w) := by
  obtain ⟨nx, rv, w', μ', h1, h2, h3, h4, h5⟩ := hx
  rw [h1]
  rcases h2 with rfl | ⟨rfl, rfl⟩
  · exact hk _ _ _ h3 h4 h5
  · exact hk _ _ _ h3 h4 h5

theorem opGo_ok (hF : FOk F cx) (hih : CallOk P ih) {o : Oper} (ho : okOper n o = true) (hs : SOk μ n s a w) {kk : St → R} {K : Act → World → Prop}
    (hi : Incl (opGo ih cx o kk s (opV P s.T s.h o.op)) L) (hk : ∀ s' a' w' μ', SOk μ' n s' a' w' → Fr s.h μ w s'.h μ' w' → Incl (kk s') L → K a' w') : o.wpIn F k P a w K Q := by
  refine ⟨about_ok hF o, ?_⟩
  have hok := okOper_tmps ho
  cases hv : opV P s.T s.h o.op with
  | bad => rw [hv] at hi; exact hi.bad.elim
  | val v h' =>
    rw [hv] at hi
    rw [Oper.semAt_eq _ _ _ (opV_defer hv)]
    refine (op_ok hs.hH hs.hT o hok hv).upon fun rv w' μ' h1 h2 h3 => ?_
    exact hk _ _ _ _ (hs.put h3.le ho h1 h2) h3 hi
  | fork l =>
    rw [hv] at hi
    have hi' : Incl (Bool.casesOn (Nat.beq (opNo o.op) 1) (.bad o.pos) (R.all (mapl (fun p => kk ⟨put s.T o.dst p.1, s.ds, p.2⟩) l))) L := hi
    cases hb : Nat.beq (opNo o.op) 1 with
    | false => rw [hb] at hi'; exact hi'.bad.elim
    | true =>
      rw [hb] at hi'
      rw [Nat.beq_eq] at hb
      rw [Oper.semAt_eq _ _ _ (opV_defer' hv)]
      obtain ⟨p, hp, hx⟩ := opF_ok hs.hH hs.hT o hok hb hv
      refine hx.upon fun rv w' μ' h1 h2 h3 => ?_
      refine hk _ _ _ _ (hs.put h3.le ho h1 h2) h3 ((show Incl (R.all _) L from hi').all ?_)
      rw [mapl_eq]
      exact List.mem_map_of_mem (f := fun p : V × H => kk ⟨put s.T o.dst p.1, s.ds, p.2⟩) hp
  | call f args =>
    rw [hv] at hi
    have hi' : Incl (Bool.casesOn (Nat.beq (opNo o.op) 2) (.bad o.pos) ((ih.call f args s.h).bindR fun v h => kk ⟨put s.T o.dst v, s.ds, h⟩)) L := hi
    cases hb : Nat.beq (opNo o.op) 2 with
    | false => rw [hb] at hi'; exact hi'.bad.elim
    | true =>
      rw [hb] at hi'
      rw [Nat.beq_eq] at hb
      obtain ⟨l, hl, hl2⟩ := (show Incl (RC.bindR _ _) L from hi').bindR
      obtain ⟨dst, op, ty, pos, after, guard⟩ := o
      obtain ⟨fo, ao, ats, hop⟩ := opNo_call hb
      have hop' : op = .call ⟨.value fo, ao, ats⟩ := hop
      subst hop'
      cases hv
      rw [Oper.semAt_eq _ _ _ (by simp)]
      refine (call_ok hih hs.hT hs.hH hok hl (R := fun rv w' => K (a.put dst rv) w') fun v h' hm rv w' μ' h1 h2 h3 => ?_).uponIn hF fun _ _ h => h
      exact hk _ _ _ _ (hs.put (o := ⟨dst, .call ⟨.value fo, ao, ats⟩, ty, pos, after, guard⟩) h3.le ho h1 h2) h3 (hl2 _ hm)
  | dfr f args =>
    rw [hv] at hi
    have hi' : Incl (Bool.casesOn (andb (isFn f) (andb (Nat.beq (opNo o.op) 3) (notb cx))) (.bad o.pos) (kk ⟨put s.T o.dst undef', .call f args :: s.ds, s.h⟩)) L := hi
    cases hb : andb (isFn f) (andb (Nat.beq (opNo o.op) 3) (notb cx)) with
    | false => rw [hb] at hi'; exact hi'.bad.elim
    | true =>
      rw [hb] at hi'
      rw [andb_eq, andb_eq, notb_eq, Bool.and_eq_true, Bool.and_eq_true, Nat.beq_eq] at hb
      obtain ⟨hfn, hb⟩ := hb
      obtain ⟨dst, op, ty, pos, after, guard⟩ := o
      obtain ⟨fo, ao, ats, hop⟩ := opNo_defer hb.1
      have hop' : op = .defer ⟨.value fo, ao, ats⟩ := hop
      subst hop'
      have hro : F.round = none := by
        rcases hF with ⟨rfl, _⟩ | ⟨l, _, hcx⟩
        · rfl
        · rw [hcx] at hb; simp at hb
      rw [hro, Oper.semAt_none]
      cases hv
      have hl' : okT n (([fo] ++ ao.toList).flatMap tmpOf) := by
        have h1 : okT n ((Call.operands ⟨.value fo, ao, ats⟩).toList.flatMap tmpOf) := hok
        simpa [Call.operands] using h1
      have r1 := ev_rel hs.hT (x := fo) (okT_mem hl' (by simp))
      have r2 := evs_rel hs.hT (l := ao.toList) (by rw [List.flatMap_append] at hl'; exact mem_okT hl' fun t ht => List.mem_append_right _ ht)
      have r3 : All2 (VRel μ) (evs s.T ao) (ao.map a.eval).toList := by rw [Array.toList_map]; exact r2
      obtain ⟨x, hx1, hx2⟩ := vS_ne (d := false) hfn (by simp)
      rcases sFn_ne (d := false) hx2 (by simp) with ⟨g, fa, fb, rfl, _⟩ | ⟨l, rfl, h0⟩
      · rw [hx1] at r1
        obtain ⟨X, Y, hfv, hX, hY⟩ := one_rel r1
        have hres : (execOp a.eval ⟨dst, .defer ⟨.value fo, ao, ats⟩, ty, pos, after, guard⟩) = pure (.defer { target := .fn (.func g) Y, args := X ++ ao.map a.eval }) := by
          simp only [execOp, resolve, hfv, Deferred.ofValue]
          rfl
        rw [hres]
        show K _ _
        refine hk ⟨put s.T dst undef', .call (ev s.T fo) (evs s.T ao) :: s.ds, s.h⟩ _ _ μ ⟨TRel.put (a := ⟨a.tmps, _ :: a.defers⟩) hs.hT (okOper_dst ho) VRel.undef, ?_, hs.hH⟩ (Fr.refl _ _ _) hi'
        have hde : (({ a with defers := { target := .fn (.func g) Y, args := X ++ ao.map a.eval } :: a.defers } : Act).put dst undef).defers = { target := .fn (.func g) Y, args := X ++ ao.map a.eval } :: a.defers := by
          unfold Act.put; cases dst <;> rfl
        rw [hde]
        refine ⟨⟨_, _, ev_rel hs.hT (x := fo) (okT_mem hl' (by simp)), r3, ?_⟩, hs.hD⟩
        rw [hfv]
        rfl
      · cases h0

theorem qo_o (o : Oper) : (qo o).o = o := by
  unfold qo
  split <;> rfl
theorem qo_mv {o : Oper} (h : (qo o).mv = true) : ∃ x d, (o.op = .move x ∨ o.op = .assign x) ∧ o.dst = some d ∧ o.guard = none ∧ (qo o).x = x ∧ (qo o).dp = tpath d := by
  unfold qo at *
  split at h
  · rename_i x d h1 h2 h3
    exact ⟨x, d, .inl h1, h2, h3, rfl, rfl⟩
  · rename_i x d h1 h2 h3
    exact ⟨x, d, .inr h1, h2, h3, rfl, rfl⟩
  · cases h

theorem SOk.setT {d : Tmp} (hs : SOk μ n s a w) (hd : d < n) {v : V} {rv : Value} (hv : VRel μ v rv) : SOk μ n ⟨s.T.set v (tpath d), s.ds, s.h⟩ (a.put (some d) rv) w :=
  ⟨hs.hT.set hd hv, hs.hD, hs.hH⟩

/-- operations one behind the other -/
theorem ops_ok (hF : FOk F cx) (hih : CallOk P ih) {ops : Array Oper} (hok : ∀ o ∈ ops.toList, okOper n o = true) (l : List Oper) (hl : ∀ o ∈ l, o ∈ ops.toList) : ∀ {s : St} {a : Act} {w : World} {μ : Mu}, SOk μ n s a w →
    Incl (evOps P ih cx ops.toList (mapl qo l) s) L → Sat n s.h μ w L Q → wpListIn F k P ops Q l a w := by
  induction l with
  | nil =>
    intro s a w μ hs hi hsat
    exact hsat _ _ hi.one _ _ _ hs (Fr.refl _ _ _)
  | cons o l il =>
    intro s a w μ hs hi hsat
    have ho := hok o (hl o (by simp))
    have il' := fun {s : St} {a : Act} {w : World} {μ : Mu} => il (fun o ho => hl o (by simp [ho])) (s := s) (a := a) (w := w) (μ := μ)
    have hi' : Incl (Bool.casesOn (qo o).mv (opStep P ih cx ops.toList (qo o).o (evOps P ih cx ops.toList (mapl qo l)) s) (evOps P ih cx ops.toList (mapl qo l) ⟨s.T.set (ev s.T (qo o).x) (qo o).dp, s.ds, s.h⟩)) L := hi
    cases hm : (qo o).mv with
    | true =>
      rw [hm] at hi'
      obtain ⟨x, d, h1, h2, h3, h4, h5⟩ := qo_mv hm
      have hi2 : Incl (evOps P ih cx ops.toList (mapl qo l) ⟨s.T.set (ev s.T (qo o).x) (qo o).dp, s.ds, s.h⟩) L := hi'
      rw [h4, h5] at hi2
      have hx : okT n (tmpOf x) := by
        have := okOper_tmps ho
        rcases h1 with h1 | h1 <;> rw [h1] at this <;> exact okT_mem (l := [x]) this (by simp)
      have hs2 := hs.setT (okOper_dst ho d h2) (ev_rel hs.hT hx)
      have hw : Region.wanted o (yielded ops a.tmps) = true := by unfold Region.wanted; rw [h3]
      simp only [wpListIn, hw, if_true]
      refine ⟨about_ok hF o, ?_⟩
      have hnd : ∀ c, o.op ≠ .defer c := by rcases h1 with h1 | h1 <;> rw [h1] <;> simp
      rw [Oper.semAt_eq _ _ _ hnd]
      have hx2 : (execOp a.eval o).run P w = .ok (.value (a.eval x)) w := by rcases h1 with h1 | h1 <;> simp [execOp, h1]
      rw [hx2, Oper.uponIn_value, h2]
      exact il' hs2 hi2 hsat
    | false =>
      rw [hm, qo_o] at hi'
      have hi2 : Incl (Option.casesOn (wanted ops.toList s.T o) (.bad "wanted") (fun b => Bool.casesOn b (evOps P ih cx ops.toList (mapl qo l) ⟨put s.T o.dst undef', s.ds, s.h⟩) (opGo ih cx o (evOps P ih cx ops.toList (mapl qo l)) s (opV P s.T s.h o.op)))) L := hi'
      cases hw : wanted ops.toList s.T o with
      | none => rw [hw] at hi2; exact hi2.bad.elim
      | some b =>
        rw [hw] at hi2
        have hw2 := wanted_ok hok hs.hT hw
        cases b with
        | false =>
          simp only [wpListIn, hw2, Bool.false_eq_true, if_false]
          exact ⟨about_ok hF o, il' (hs.put (Mu.le_refl _) ho VRel.undef hs.hH) hi2 hsat⟩
        | true =>
          simp only [wpListIn, hw2, if_true]
          exact opGo_ok hF hih ho hs hi2 fun s' a' w' μ' h1 h2 h3 => il' h1 h3 (hsat.from h2)

theorem region_ok (hF : FOk F cx) (hih : CallOk P ih) {ops : Array Oper} {id : Nat} (hok : ∀ o ∈ ops.toList, okOper n o = true) (hs : SOk μ n s a w) (hi : Incl (evOps P ih cx ops.toList (mapl qo ops.toList) s) L)
    (hsat : Sat n s.h μ w L Q) : (Code.region id ops false).wpIn F k P Q a w :=
  wpIn_region_list (ops_ok hF hih hok ops.toList (fun _ h => h) hs hi hsat)

end

end Go.Sx
