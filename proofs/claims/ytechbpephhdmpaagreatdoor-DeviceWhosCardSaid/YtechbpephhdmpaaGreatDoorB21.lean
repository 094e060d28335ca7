/-
  SOUNDNESS OF THE ABSTRACT INTERPRETER, twenty-first part: leaving a function; a function's contract.
-/
import Derived.Test.YtechbpephhdmpaaGreatDoorB20
namespace Go.Sx

section
variable {P : Program} {w : World} {μ : Mu} {h h' : H} {v : V} {n : Nat} {ih : Ev}

theorem caps_rel {a : List Nat} {X : List Value} (h : All2 (PtrRel μ) a X) : All2 (VRel μ) (mapl capV a) X := by
  rw [mapl_eq]
  induction a generalizing X with
  | nil => rw [h.nil_left]; trivial
  | cons i a il =>
    obtain ⟨x, X, rfl, h1, h2⟩ := h.cons_left
    exact ⟨h1, il h2⟩

theorem args_rel {fa fb : List Nat} {X Y argv : Array Value} {args : List V} (hX : All2 (PtrRel μ) fa X.toList) (hY : All2 (PtrRel μ) fb Y.toList) (ha : All2 (VRel μ) args argv.toList) :
    All2 (VRel μ) (app (mapl capV fa) (app args (mapl capV fb))) (X ++ argv ++ Y).toList := by
  rw [app_eq, app_eq, Array.toList_append, Array.toList_append, List.append_assoc]
  exact (caps_rel hX).append (ha.append (caps_rel hY))

theorem funcOf_some {f : FuncId} {p : Func × Code} (h : funcOf P f = some p) : P.funcs[f]? = some p.1 ∧ p.1.body = some p.2 := by
  unfold funcOf at h
  split at h
  · rename_i fn hf
    split at h
    · rename_i c hb
      cases h
      exact ⟨hf, hb⟩
    · cases h
  · cases h

theorem funcOf_body {f : FuncId} {p : Func × Code} (h : funcOf P f = some p) : hasBody P f = true := by
  obtain ⟨h1, h2⟩ := funcOf_some h
  unfold hasBody
  rw [h1]
  show p.1.body.isSome = true
  rw [h2]
  rfl

theorem ofValue_fn {g : FuncId} {X Y argv : Array Value} {d : Deferred} (h : Deferred.ofValue (.func (.func g) X Y) argv = pure d) : d = { target := .fn (.func g) Y, args := X ++ argv } :=
  (Sem.pure.inj h).symm

/-- an end that is one, and none is left by a jump -/
theorem entered (hc : CodeOk P ih) {fn : Func} {c : Code} {args : List V} {argv : Array Value} (hok : andb (okBody fn c) (Nat.ble (lenl args) fn.ntmps) = true) (ha : All2 (VRel μ) args argv.toList) (hr : HRel μ h w)
    {L : List (Ex × St)} (hi : Incl (ih.code c false ⟨setAll args 0 (T0 fn.ntmps), [], h⟩) L) {Q : Exit → Act → World → Prop} (hsat : Sat fn.ntmps h μ w L Q) (k : Nat) :
    c.wpIn Fence.wide k P Q { tmps := argv ++ Array.replicate (fn.ntmps - argv.size) undef, defers := [] } w := by
  obtain ⟨h1, h2⟩ := okCode_and hok
  obtain ⟨h3, h4⟩ := okCode_and (show andb (Nat.ble fn.ntmps 256) (andb (alll (okRes fn.ntmps) fn.results.toList) (okCode fn.ntmps c)) = true from h1)
  obtain ⟨_, h5⟩ := okCode_and h4
  rw [ble_iff] at h3
  rw [ble_iff, lenl_eq] at h2
  exact Wp.wpIn (hc c false _ fn.ntmps L h5 hi Fence.wide (.inl ⟨rfl, rfl⟩) { tmps := argv ++ Array.replicate (fn.ntmps - argv.size) undef, defers := [] } w μ ⟨enter_rel ha h3 h2, trivial, hr⟩ k Q hsat)

theorem okBody_res {fn : Func} {c : Code} {b : Bool} (h : andb (okBody fn c) b = true) : alll (okRes fn.ntmps) fn.results.toList = true := by
  obtain ⟨h1, _⟩ := okCode_and h
  obtain ⟨_, h4⟩ := okCode_and (show andb (Nat.ble fn.ntmps 256) (andb (alll (okRes fn.ntmps) fn.results.toList) (okCode fn.ntmps c)) = true from h1)
  exact (okCode_and h4).1

def retPost (R : Value → World → Prop) : Ending → World → Prop
  | .returned v, w => R v w
  | _, _ => False

/-- the deferred calls of a function that leaves -/
theorem leaves_ok (hname : NameOk P) (hc : CodeOk P ih) {fn : Func} {T : Tr V} {tmps : Array Value} (hres : alll (okRes n) fn.results.toList = true) {R : Value → World → Prop} (k : Nat) (ds : List D) :
    ∀ (ds' : List Deferred) (h : H) (w : World) (μ : Mu) (l : List (V × H)), (runDefers P ih (resultsV P fn.results.toList T) ds h).list = some l → All2 (DRel μ) ds ds' → HRel μ h w → TRel μ T n tmps → CallPost h μ w l R →
      LeavesInM Fence.wide k P fn tmps (retPost R) ds' .returning w := by
  induction ds with
  | nil =>
    intro ds' h w μ l hl hd hr hT hp
    have := hd.nil_left
    subst this
    obtain ⟨v, rv, rfl, h1, h2⟩ := results_ok hr hT hres hl
    exact ⟨rv, h1, hp v h (by simp) rv w μ h2 hr (Fr.refl _ _ _)⟩
  | cons d ds il =>
    intro ds' h w μ l hl hd hr hT hp
    obtain ⟨d', ds', rfl, hd1, hd2⟩ := hd.cons_left
    refine ⟨by simp, ?_⟩
    cases d with
    | mark m =>
      left
      have hl' : (O.casesOn (motive := fun _ => RC) (h.get m) (.bad "mark") (fun _ _ _ => .bad "mark") (fun _ _ => .bad "mark") (fun _ _ _ _ => .bad "mark") (fun _ _ => .bad "mark") (fun _ _ _ _ _ _ => .bad "mark")
        (runDefers P ih (resultsV P fn.results.toList T) ds (h.set m .gone))).list = some l := hl
      obtain ⟨bi, hb1, hb2⟩ := hd1
      cases hg : h.get m <;> rw [hg] at hl' <;> first
        | (cases hl'; done)
        | skip
      case dfr =>
        have ho : w.heap[bi.b]? = some (.deferred (some [])) := hr.objAt hb1 hg (by simp)
        obtain ⟨w', s1, s2, s3, _⟩ := hr.putObj (P := P) (o := .gone) (ob' := .deferred none) hb1 (by rw [hg]; simp) ho (by simp) (fun _ _ => trivial)
        refine ⟨bi.b, w', hb2, ?_, il ds' _ w' μ l hl' hd2 s2 hT fun v h2 hm rv w2 μ2 g1 g2 g3 => hp v h2 hm rv w2 μ2 g1 g2 (s3.trans g3)⟩
        simp only [Instr.takeDeferred, Sem.run_bind, run_getObj' ho (by simp), Result.andThen_ok, s1, Sem.run_pure]
    | call f args =>
      right
      refine ⟨fun hd => by simp [Fence.wide] at hd, ?_⟩
      have hl' : (dCall P ih (runDefers P ih (resultsV P fn.results.toList T) ds) f args h).list = some l := hl
      have notbad : ∀ {r : RC}, r.list = some l → ∀ m, r ≠ .bad m := fun hrl m he => by rw [he] at hrl; cases hrl
      obtain ⟨x, rfl, hx⟩ := vS_ne (d := RC.bad "call") (r := dCall P ih (runDefers P ih (resultsV P fn.results.toList T) ds) f args h) rfl (notbad hl' _)
      have hl2 : (sFn x (.bad "call") (fun f a b => Option.casesOn (funcOf P f) (.bad "no function") (fun p => dBody P ih (runDefers P ih (resultsV P fn.results.toList T) ds) p.1 p.2 (app (mapl capV a) (app args (mapl capV b))) h)) (fun _ => .bad "yield") : RC).list = some l := hl'
      obtain ⟨g, fa, fb, rfl⟩ : ∃ g fa fb, x = .fn g fa fb := by
        rcases sFn_ne (d := RC.bad "call") (r := _) rfl (notbad hl2 _) with ⟨g, fa, fb, rfl, _⟩ | ⟨y, rfl, _⟩
        · exact ⟨g, fa, fb, rfl⟩
        · cases hl2
      have hl3 : (Option.casesOn (funcOf P g) (.bad "no function") (fun p => dBody P ih (runDefers P ih (resultsV P fn.results.toList T) ds) p.1 p.2 (app (mapl capV fa) (app args (mapl capV fb))) h) : RC).list = some l := hl2
      cases hf : funcOf P g with
      | none => rw [hf] at hl3; cases hl3
      | some p =>
      rw [hf] at hl3
      obtain ⟨fn', c⟩ := p
      have hl4 : (dBody P ih (runDefers P ih (resultsV P fn.results.toList T) ds) fn' c (app (mapl capV fa) (app args (mapl capV fb))) h).list = some l := hl3
      unfold dBody at hl4
      cases hb : andb (okBody fn' c) (Nat.ble (lenl (app (mapl capV fa) (app args (mapl capV fb)))) fn'.ntmps) with
      | false => rw [hb] at hl4; cases hl4
      | true =>
      rw [hb] at hl4
      have hl5 : (dR P (runDefers P ih (resultsV P fn.results.toList T) ds) fn'.results.toList (ih.code c false ⟨setAll (app (mapl capV fa) (app args (mapl capV fb))) 0 (T0 fn'.ntmps), [], h⟩)).list = some l := hl4
      obtain ⟨fv, argv, hfv, hav, hof⟩ := hd1
      obtain ⟨X, Y, rfl, hX, hY⟩ := one_rel hfv
      have hd' := ofValue_fn hof
      subst hd'
      obtain ⟨hf1, hf2⟩ := funcOf_some hf
      have hinv := invoke_body (w := w) hname (funcOf_body hf) Y (X ++ argv)
      refine ⟨.func g, Y, g, X ++ argv ++ Y, rfl, hinv, fun _ _ => trivial, ?_⟩
      cases hcode : ih.code c false ⟨setAll (app (mapl capV fa) (app args (mapl capV fb))) 0 (T0 fn'.ntmps), [], h⟩ with
      | bad m => rw [hcode] at hl5; cases hl5
      | many q => rw [hcode] at hl5; cases hl5
      | one e s =>
      rw [hcode] at hl5
      have hend : (dEnd P (runDefers P ih (resultsV P fn.results.toList T) ds) fn'.results.toList s).list = some l ∧ (e = .normal ∨ e = .ret) := by
        cases e with
        | normal => exact ⟨hl5, .inl rfl⟩
        | ret => exact ⟨hl5, .inr rfl⟩
        | exit id => cases hl5
      obtain ⟨hend, hee⟩ := hend
      unfold dEnd at hend
      cases hds : s.ds with
      | cons y z => rw [hds] at hend; cases hend
      | nil =>
      rw [hds] at hend
      have hend2 : (RC.casesOn (motive := fun _ => RC) (resultsV P fn'.results.toList s.T s.h) .bad (fun _ h => runDefers P ih (resultsV P fn.results.toList T) ds h) (fun _ => .bad "many")).list = some l := hend
      have hwp := entered hc hb (args_rel hX hY hav) hr (L := [(e, s)]) (by rw [hcode]; exact ⟨_, rfl, fun _ h => h⟩)
        (Q := bodyPost P fn' (retPost fun _ w' => LeavesInM Fence.wide k P fn tmps (retPost R) ds' .returning w')) ?_ (k - 1)
      · have hcd := callsDIn_of_wp (u := .returning) hf1 hf2 trivial hwp
        refine CallsDIn.mono hcd fun e' u' w' he' => ?_
        obtain ⟨rfl, he'⟩ := he'
        cases e' with
        | returned v => exact he'
        | panicked c => exact he'.elim
        | outgrown => exact he'.elim
      · intro e' s' hm a' w' μ' hs' hfr
        simp at hm
        obtain ⟨rfl, rfl⟩ := hm
        have hdf : a'.defers = [] := by
          have := hs'.hD
          rw [hds] at this
          exact this.nil_left
        have hresult : ∃ v, (results fn' a'.tmps).run P w' = .ok v w' ∧ LeavesInM Fence.wide k P fn tmps (retPost R) ds' .returning w' := by
          cases hrv : resultsV P fn'.results.toList s'.T s'.h with
          | bad m => rw [hrv] at hend2; cases hend2
          | many q => rw [hrv] at hend2; cases hend2
          | one v2 h2 =>
            obtain ⟨v3, rv, hl6, h7, _⟩ := results_ok hs'.hH hs'.hT (okBody_res hb) (show (resultsV P fn'.results.toList s'.T s'.h).list = some [(v2, h2)] by rw [hrv]; rfl)
            simp at hl6
            obtain ⟨_, rfl⟩ := hl6
            rw [hrv] at hend2
            exact ⟨rv, h7, il ds' _ w' μ' l hend2 (hd2.mono fun _ _ => DRel.mono hfr.le) hs'.hH (hT.mono hfr.le) fun v h2 hm rv w2 μ2 g1 g2 g3 => hp v h2 hm rv w2 μ2 g1 g2 (hfr.trans g3)⟩
        obtain ⟨rv, h8, h9⟩ := hresult
        rcases hee with rfl | rfl
        · exact ⟨hdf, rv, h8, h9⟩
        · exact ⟨hdf, rv, h8, h9⟩

/-- a function's contract, out of its body -/
theorem body_ok (hname : NameOk P) (hc : CodeOk P ih) {f : FuncId} {fn : Func} {c : Code} (hf : P.funcs[f]? = some fn) (hb : fn.body = some c) {args : List V} {argv : Array Value} {l : List (V × H)}
    (hl : (evBody P ih fn c args h).list = some l) (ha : All2 (VRel μ) args argv.toList) (hr : HRel μ h w) {R : Value → World → Prop} (hp : CallPost h μ w l R) (k : Nat) : CallsIn Fence.wide k P f argv w (retPost R) := by
  unfold evBody at hl
  cases hok : andb (okBody fn c) (Nat.ble (lenl args) fn.ntmps) with
  | false => rw [hok] at hl; cases hl
  | true =>
  rw [hok] at hl
  have hl2 : (leaveR P ih fn.results.toList (ih.code c false ⟨setAll args 0 (T0 fn.ntmps), [], h⟩)).list = some l := hl
  -- each end leaves
  have ends : ∃ L, (ih.code c false ⟨setAll args 0 (T0 fn.ntmps), [], h⟩).list = some L ∧ ∀ e s, (e, s) ∈ L → ∃ l', (leave P ih fn.results.toList e s).list = some l' ∧ ∀ p ∈ l', p ∈ l := by
    cases hcode : ih.code c false ⟨setAll args 0 (T0 fn.ntmps), [], h⟩ with
    | bad m => rw [hcode] at hl2; cases hl2
    | one e s => rw [hcode] at hl2; exact ⟨_, rfl, fun e' s' hm => by simp at hm; obtain ⟨rfl, rfl⟩ := hm; exact ⟨l, hl2, fun _ h => h⟩⟩
    | many q =>
      rw [hcode] at hl2
      have hl3 : (RC.all (mapl (fun p => leave P ih fn.results.toList p.1 p.2) q)).list = some l := hl2
      refine ⟨q, rfl, fun e s hm => RC.all_list hl3 ?_⟩
      rw [mapl_eq]
      exact List.mem_map_of_mem (f := fun p : Ex × St => leave P ih fn.results.toList p.1 p.2) hm
  obtain ⟨L, hL, hends⟩ := ends
  refine callsIn_of_wp_marks hf hb trivial (entered hc hok ha hr (Incl.self hL) (Q := bodyPostM Fence.wide k P fn (retPost R)) ?_ k)
  intro e s hm a' w' μ' hs' hfr
  obtain ⟨l', hl', hin⟩ := hends e s hm
  have key : (runDefers P ih (resultsV P fn.results.toList s.T) s.ds s.h).list = some l' → LeavesInM Fence.wide k P fn a'.tmps (retPost R) a'.defers .returning w' := fun hrd =>
    leaves_ok hname hc (okBody_res hok) k s.ds a'.defers s.h w' μ' l' hrd hs'.hD hs'.hH hs'.hT fun v h2 hm rv w2 μ2 g1 g2 g3 => hp v h2 (hin _ hm) rv w2 μ2 g1 g2 (hfr.trans g3)
  cases e with
  | normal => exact key hl'
  | ret => exact key hl'
  | exit id => cases hl'

end

end Go.Sx
