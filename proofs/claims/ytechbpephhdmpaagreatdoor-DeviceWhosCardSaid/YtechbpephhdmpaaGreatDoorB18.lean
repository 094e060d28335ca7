/-
  SOUNDNESS OF THE ABSTRACT INTERPRETER, eighteenth part: code.
-/
import Derived.Test.YtechbpephhdmpaaGreatDoorB17
namespace Go.Sx

/-- walked: a loop from its body on -/
def Wp (F : Fence) (k : Nat) (P : Program) (c : Code) (Q : Exit → Act → World → Prop) (a : Act) (w : World) : Prop :=
  match c with
  | .loop b => ∀ (fr : Frame) (kk : List Item) (cs : List Frame), fr.roundOf = F.round → F.fn fr.fn → F.room (cs.length + 1 + k) →
      ∃ e a' w', Q e a' w' ∧ ArrivesIn (Machine.fenced P F) P (lone (fr.atR a (.code b :: .inLoop b :: kk)) cs w) fr kk cs e a' w'
  | c => c.wpIn F k P Q a w

section
variable {P : Program} {F : Fence} {cx : Bool} {n k : Nat} {μ : Mu} {s : St} {a : Act} {w : World} {ih : Ev} {L : List (Ex × St)} {Q : Exit → Act → World → Prop} {T : Tr V} {h h' : H}

theorem Wp.wpIn {c : Code} (hw : Wp F k P c Q a w) : c.wpIn F k P Q a w := by
  cases c <;> first
    | exact hw
    | skip
  case loop b =>
    intro fr kk cs hro hb hr
    obtain ⟨e, a', w', hq, harr⟩ := hw fr kk cs hro hb hr
    exact ⟨e, a', w', hq, .of_steps (.one (fenced_calm hb hr rfl) stepR_loop) harr⟩

theorem Wp.loop {b : Code} (hb : b.wpIn F k P (Exit.then (Wp F k P (.loop b) Q) Q) a w) : Wp F k P (.loop b) Q a w := by
  intro fr kk cs hro hfn hr
  obtain ⟨e, a₁, w₁, hq, harr⟩ := hb fr (.inLoop b :: kk) cs hro hfn hr
  cases e with
  | normal =>
    obtain ⟨e₂, a₂, w₂, hq₂, harr₂⟩ := hq fr kk cs hro hfn hr
    exact ⟨e₂, a₂, w₂, hq₂, .of_steps (StepsIn.trans harr (.one (fenced_calm hfn hr rfl) stepR_inLoop)) harr₂⟩
  | exit id => exact ⟨_, a₁, w₁, hq, .pass (x := .inLoop b) rfl (fun _ _ => .inl (by simp)) harr⟩
  | goto l => exact ⟨_, a₁, w₁, hq, .pass (x := .inLoop b) rfl (fun _ _ => .inl (by simp)) harr⟩
  | ret => exact ⟨_, a₁, w₁, hq, .pass (x := .inLoop b) rfl (fun _ _ => .inl (by simp)) harr⟩
  | panic ch => exact ⟨_, a₁, w₁, hq, .pass (x := .inLoop b) rfl (fun _ _ => .inl (by simp)) harr⟩
  | outgrown => exact ⟨_, a₁, w₁, hq, .pass (x := .inLoop b) rfl (fun _ _ => .inl (by simp)) harr⟩

def CodeOk (P : Program) (ih : Ev) : Prop := ∀ c cx s n L, okCode n c = true → Incl (ih.code c cx s) L → ∀ F, FOk F cx → ∀ a w μ, SOk μ n s a w → ∀ k Q, Sat n s.h μ w L Q → Wp F k P c Q a w

def DrawOk (P : Program) (ih : Ev) : Prop := ∀ (ops : Array Oper) (id : Nat) (s : St) (n : Nat) (L : List (Ex × St)), (∀ o ∈ ops.toList, okOper n o = true) → Incl (evDraw P ih ops.toList s) L →
  ∀ F cx, FOk F cx → ∀ a w μ, SOk μ n s a w → ∀ k Q, Sat n s.h μ w L Q → (Code.region id ops true).wpIn F k P Q a w

theorem Incl.mono {r : R} {L L' : List (Ex × St)} (h : Incl r L) (hl : ∀ p ∈ L, p ∈ L') : Incl r L' := by
  obtain ⟨l, h1, h2⟩ := h
  exact ⟨l, h1, fun p hp => hl p (h2 p hp)⟩
theorem Incl.self {r : R} {l : List (Ex × St)} (h : r.list = some l) : Incl r l := ⟨l, h, fun _ h => h⟩

/-- one code behind another -/
theorem seq_post {l : List (Ex × St)} {kk : St → R} (hl : ∀ p ∈ l, Incl (R.thn kk p.1 p.2) L) (hsat : Sat n h μ w L Q) {Y : Act → World → Prop}
    (hy : ∀ s a' w' μ', SOk μ' n s a' w' → Fr h μ w s.h μ' w' → Incl (kk s) L → Y a' w') : Sat n h μ w l (Exit.then Y Q) := by
  intro e s he a' w' μ' h1 h2
  have h3 := hl _ he
  cases e with
  | normal => exact hy s a' w' μ' h1 h2 h3
  | exit id => exact hsat _ _ h3.one _ _ _ h1 h2
  | ret => exact hsat _ _ h3.one _ _ _ h1 h2

theorem blockR_incl {id : Nat} {r : R} (hi : Incl (blockR id r) L) : ∃ l, r.list = some l ∧ ∀ e s, (e, s) ∈ l → (inBlock id e, s) ∈ L := by
  cases r with
  | bad m => exact hi.bad.elim
  | one e s => exact ⟨[(e, s)], rfl, fun e' s' h => by simp at h; obtain ⟨rfl, rfl⟩ := h; exact Incl.one (show Incl (.one (inBlock id e') s') L from hi)⟩
  | many l =>
    obtain ⟨l', h1, h2⟩ := hi
    have h1' : some (mapl (fun p => (inBlock id p.1, p.2)) l) = some l' := h1
    cases h1'
    refine ⟨l, rfl, fun e s he => h2 _ ?_⟩
    rw [mapl_eq]
    exact List.mem_map_of_mem (f := fun p : Ex × St => (inBlock id p.1, p.2)) he

theorem block_post {id : Nat} {l : List (Ex × St)} (hl : ∀ e s, (e, s) ∈ l → (inBlock id e, s) ∈ L) (hsat : Sat n h μ w L Q) : Sat n h μ w l (Exit.inBlock id Q) := by
  intro e s he a' w' μ' h1 h2
  have h3 := hsat _ _ (hl _ _ he) _ _ _ h1 h2
  cases e with
  | normal => exact h3
  | ret => exact h3
  | exit j =>
    have h4 : Q (Ex.toExit (Bool.casesOn (Nat.beq id j) (.exit j) .normal)) a' w' := h3
    show Exit.inBlock id Q (.exit j) a' w'
    simp only [Exit.inBlock]
    by_cases e : id = j
    · have : Nat.beq id j = true := by rw [Nat.beq_eq]; exact e
      rw [this] at h4
      rw [if_pos e.symm]
      exact h4
    · have : Nat.beq id j = false := by
        cases hb : Nat.beq id j with
        | false => rfl
        | true => rw [Nat.beq_eq] at hb; exact absurd hb e
      rw [this] at h4
      rw [if_neg (fun h => e h.symm)]
      exact h4

/-! ### a loop over a function -/

theorem run_getLoop {l : Nat} {r : Loop} (hb : w.heap[l]? = some (.loop r)) : (Instr.getLoop l).run P w = .ok r w := by
  simp only [Instr.getLoop, Sem.run_bind, run_getObj' hb (by simp), Result.andThen_ok, Sem.run_pure]

def NameOk (P : Program) : Prop := ∀ (f : FuncId) (fn : Func), P.funcs[f]? = some fn → fn.name ≠ "runtime.NumGoroutine"

theorem invoke_body (hname : NameOk P) {g : FuncId} (hg : hasBody P g = true) (Y args : Array Value) : (invoke (.fn (.func g) Y) args).run P w = .ok (.enter g (args ++ Y)) w := by
  unfold hasBody at hg
  cases hf : P.funcs[g]? with
  | none => rw [hf] at hg; cases hg
  | some fn =>
    rw [hf] at hg
    have hn := hname g fn hf
    have hbd : fn.body.isNone = false := by
      have hg' : fn.body.isSome = true := hg
      cases hh : fn.body with
      | none => rw [hh] at hg'; cases hg'
      | some _ => rfl
    have hne : (fn.name == "runtime.NumGoroutine") = false := by simpa using hn
    simp only [invoke, callFunc, Sem.run_bind, run_program, Result.andThen_ok, hf, hne, Bool.false_eq_true, if_false, hbd, Sem.run_pure]

theorem fr_new {o : O} {L : List (Ex × St)} {f : Nat → H → R} (hi : Incl (h.new o (.bad "force") f) L) : h.n < most ∧ Incl (f h.n (h.add o)) L := by
  rw [H.new_eq] at hi
  split at hi
  · exact ⟨by assumption, hi⟩
  · exact hi.bad.elim

theorem oLoop_incl {o : O} {m : String} {f : Bool → Tr V → List Tmp → Code → Code → Nat → R} {L : List (Ex × St)} (hi : Incl (oLoop o (.bad m) f) L) :
    ∃ busy T ps a b l, o = .loop busy T ps a b l ∧ Incl (f busy T ps a b l) L := by
  cases o <;> first
    | exact ⟨_, _, _, _, _, _, rfl, hi⟩
    | exact hi.bad.elim

theorem range_code_ok (hname : NameOk P) (hF : FOk F cx) (hih : CallOk P ih) {f : Operand} {ps : Array Tmp} {ca cb : Code}
    (hf : okT n (tmpOf f)) (hps : ∀ t ∈ ps.toList, t < n) (hca : okCode n ca = true) (hcb : okCode n cb = true) (hs : SOk μ n s a w) (hi : Incl (evRange P ih f ps ca cb cx s) L) (hsat : Sat n s.h μ w L Q) :
    (Code.rangeFunc f ps ca cb).wpIn F k P Q a w := by
  unfold evRange at hi
  cases hb : andb (isBody P (ev s.T f)) (notb cx) with
  | false => rw [hb] at hi; exact hi.bad.elim
  | true =>
  rw [hb] at hi
  rw [andb_eq, notb_eq, Bool.and_eq_true] at hb
  obtain ⟨hb1, hb2⟩ := hb
  obtain ⟨hn1, hi1⟩ := fr_new (show Incl (s.h.new .dfr (.bad "force") _) L from hi)
  obtain ⟨hn2, hi2⟩ := fr_new hi1
  have hFw : F = Fence.wide := by
    rcases hF with ⟨rfl, _⟩ | ⟨l, _, hcx⟩
    · rfl
    · rw [hcx] at hb2; simp at hb2
  subst hFw
  obtain ⟨x, hx1, hx2⟩ := vS_ne (d := false) hb1 (by simp)
  obtain ⟨g, fa, fb, rfl, hg⟩ : ∃ g fa fb, x = .fn g fa fb ∧ hasBody P g = true := by
    rcases sFn_ne (d := false) hx2 (by simp) with h | ⟨l, _, h0⟩
    · exact h
    · cases h0
  have r1 := ev_rel hs.hT hf
  have r1' := r1
  rw [hx1] at r1'
  obtain ⟨X, Y, hfv, hX, hY⟩ := one_rel r1'
  refine wpIn_rangeFunc fun fnid _ => ?_
  -- the two new objects
  let m1 : BI := ⟨w.heap.size, 0⟩
  let w1 := w.alloc (.deferred (some []))
  obtain ⟨p1, p2⟩ := hs.hH.add (w' := w1) (m := m1) (o := .dfr) hn1 rfl (by show w.heap.size ≤ (w.alloc _).heap.size; simp) (fun b hb => by show (w.heap.push _)[b]? = _; simp [Array.getElem?_push, Nat.ne_of_lt hb])
    (by show (w.heap.push _)[w.heap.size]? = _; simp) rfl rfl rfl
  let lp : Loop := { state := .ready, pending := none, fn := fnid, tmps := a.tmps, params := ps, assign := ca, body := cb, defers := w.heap.size }
  let m2 : BI := ⟨w1.heap.size, 0⟩
  let w2 := w1.alloc (.loop lp)
  obtain ⟨q1, q2⟩ := p1.add (w' := w2) (m := m2) (o := .loop false s.T ps.toList ca cb s.h.n) hn2 rfl (by show w1.heap.size ≤ (w1.alloc _).heap.size; simp) (fun b hb => by show (w1.heap.push _)[b]? = _; simp [Array.getElem?_push, Nat.ne_of_lt hb])
    ⟨lp, m1, n, by show (w1.heap.push _)[w1.heap.size]? = _; simp, rfl, rfl, rfl, rfl, rfl, (hs.hT.mono p2.le).mono (Mu.le_add _ _ p1.fresh),
      Mu.le_add _ _ p1.fresh _ _ (Mu.add_self _ _ _), rfl, hca, hcb, hps⟩ rfl rfl rfl
  have hfr := p2.trans q2
  let μ2 := ((μ.add s.h.n m1).add (s.h.add .dfr).n m2)
  have hl2 : μ2 (s.h.n + 1) = some m2 := Mu.add_self _ _ _
  obtain ⟨l, hl, hl3⟩ := (show Incl (RC.bindR _ _) L from hi2).bindR
  have ry : VRel μ2 (one (.yld (s.h.n + 1))) (.func (.yield w1.heap.size) #[] #[]) := ⟨m2, hl2, rfl⟩
  obtain ⟨d, hd, hup⟩ := hih _ _ _ _ hl (a.eval f) #[.func (.yield w1.heap.size) #[] #[]] μ2 w2 (r1.mono hfr.le) ⟨ry, trivial⟩ q1
  have hd' : d = { target := .fn (.func g) Y, args := X ++ #[.func (.yield w1.heap.size) #[] #[]] } := by
    rw [hfv] at hd
    exact (Sem.pure.inj hd).symm
  subst hd'
  have hinv := invoke_body (w := w2) hname hg Y (X ++ #[.func (.yield w1.heap.size) #[] #[]])
  refine ⟨w1.heap.size, [{ target := .collected w.heap.size, args := #[] }], w2, { target := .fn (.func g) Y, args := X ++ #[.func (.yield w1.heap.size) #[] #[]] }, w2, g, _, w2, ?_, ?_, fun _ _ => trivial, hinv, fun hd => by simp [Fence.wide] at hd, ?_⟩
  · simp only [Instr.enterLoop, Fence.wide_round, Sem.run_bind, run_newObj_alloc, Result.andThen_ok, Sem.run_pure]
    rfl
  · simp only [resolve, hfv, Deferred.ofValue]
    simp [Act.eval]
  · have hpost : CallPost (h := ((s.h.add .dfr).add (.loop false s.T ps.toList ca cb s.h.n))) (μ := μ2) (w := w2) l
        fun v w3 => rangePost Fence.wide k P w1.heap.size Q { a with defers := [{ target := .collected w.heap.size, args := #[] }] ++ a.defers } (.returned v) w3 := by
      intro v h' hm rv w3 μ3 h1 h2 h3
      have hin := hl3 _ hm
      obtain ⟨busy, T', ps', a', b', d', hg', hin2⟩ := oLoop_incl (show Incl (oLoop (h'.get (s.h.n + 1)) (.bad "rangeFunc") _) L from hin)
      have hin3 : Incl (Bool.casesOn busy (.one .normal ⟨s.T, .mark s.h.n :: s.ds, h'.set (s.h.n + 1) .gone⟩) (.bad "rangeFunc")) L := hin2
      cases busy with
      | true => exact hin3.bad.elim
      | false =>
      have hl3' := h3.le _ _ hl2
      obtain ⟨L', md, n', k1, k2, k3, _⟩ := h2.objAt hl3' hg' (by simp)
      have hb3 : m2.b < w3.heap.size := (Array.getElem?_eq_some_iff.1 k1).1
      obtain ⟨u1, u2⟩ := h2.put (w' := { w3 with heap := w3.heap.setIfInBounds m2.b (.loop { L' with state := .exhausted }) }) (o := .gone) hl3' (by rw [hg']; simp) (by simp)
        (fun b hb => by show (w3.heap.setIfInBounds m2.b _)[b]? = _; rw [Array.getElem?_setIfInBounds_ne (fun e => hb e.symm)]) trivial rfl rfl rfl
      refine ⟨none, { w3 with heap := w3.heap.setIfInBounds m2.b (.loop { L' with state := .exhausted }) }, ?_, ?_⟩
      · have k1' : w3.heap[w1.heap.size]? = some (.loop L') := k1
        have k2' : L'.state = .ready := k2
        have hst : (L'.state == LoopState.busy) = false := by rw [k2']; rfl
        have hso := run_setObj' (P := P) (o' := .loop { L' with state := .exhausted }) k1' (by simp)
        simp only [Instr.endLoop, Sem.run_bind, run_getLoop k1', Result.andThen_ok, hst, Bool.false_eq_true, if_false, hso, Sem.run_pure]
        rw [k3]
      · refine hsat .normal ⟨s.T, .mark s.h.n :: s.ds, h'.set (s.h.n + 1) .gone⟩ (show Incl (.one _ _) L from hin3).one _ _ μ3 ⟨?_, ?_, u1⟩ ((hfr.trans h3).trans u2)
        · exact hs.hT.mono (hfr.trans h3).le
        · refine ⟨⟨m1, (q2.trans h3).le _ _ (Mu.add_self _ _ _), rfl⟩, hs.hD.mono fun _ _ => DRel.mono (hfr.trans h3).le⟩
    have hu := hup _ hpost
    rw [hinv] at hu
    exact CallsIn.mono (hu _) fun e w'' he => by
      cases e with
      | returned v => exact he
      | panicked c => exact he.elim
      | outgrown => exact he.elim

/-! ### code -/

theorem okCode_and {x y : Bool} (h : andb x y = true) : x = true ∧ y = true := by rwa [andb_eq, Bool.and_eq_true] at h

theorem code_ok (hname : NameOk P) (hc : CodeOk P ih) (hih : CallOk P ih) (hd : DrawOk P ih) (c : Code) (cx : Bool) (s : St) (n : Nat) (L : List (Ex × St)) (hok : okCode n c = true) (hi : Incl (evCode P ih c cx s) L)
    (F : Fence) (hF : FOk F cx) (a : Act) (w : World) (μ : Mu) (hs : SOk μ n s a w) (k : Nat) (Q : Exit → Act → World → Prop) (hsat : Sat n s.h μ w L Q) : Wp F k P c Q a w := by
  cases c <;> first
    | (exact (Incl.bad hi).elim; done)
    | skip
  case skip => exact wpIn_skip (hsat _ _ (show Incl (.one .normal s) L from hi).one _ _ _ hs (Fr.refl _ _ _))
  case region id ops draw =>
    have hok' : alll (okOper n) ops.toList = true := hok
    rw [alll_eq, List.all_eq_true] at hok'
    cases draw with
    | false => exact region_ok hF hih hok' hs (show Incl (evOps P ih cx ops.toList (mapl qo ops.toList) s) L from hi) hsat
    | true => exact hd ops id s n L hok' (show Incl (evDraw P ih ops.toList s) L from hi) F cx hF a w μ hs k Q hsat
  case seq x y =>
    obtain ⟨ok1, ok2⟩ := okCode_and (show andb (okCode n x) (okCode n y) = true from hok)
    obtain ⟨l, h1, h2⟩ := (show Incl ((ih.code x cx s).bind fun s => ih.code y cx s) L from hi).bind
    refine wpIn_seq (Wp.wpIn (hc x cx s n l ok1 (Incl.self h1) F hF a w μ hs k _ (seq_post h2 hsat fun s' a' w' μ' g1 g2 g3 => ?_)))
    exact Wp.wpIn (hc y cx s' n L ok2 g3 F hF a' w' μ' g1 k Q (hsat.from g2))
  case cond x t e =>
    obtain ⟨ok1, ok2⟩ := okCode_and (show andb (okX n x) (andb (okCode n t) (okCode n e)) = true from hok)
    obtain ⟨ok3, ok4⟩ := okCode_and ok2
    have hx : okT n (tmpOf x) := by
      intro y hy
      cases x <;> simp [tmpOf] at hy
      subst hy
      have h1 : Nat.blt _ n = true := ok1
      rwa [Nat.blt_eq] at h1
    have r1 := ev_rel hs.hT hx
    have hi' : Incl (vBool (ev s.T x) (.bad "cond") fun b => Bool.casesOn b (ih.code e cx s) (ih.code t cx s)) L := hi
    obtain ⟨l, hl, _⟩ := hi'
    obtain ⟨b, hb, _⟩ := vBool_ne (d := R.bad "cond") (r := vBool (ev s.T x) (.bad "cond") fun b => Bool.casesOn b (ih.code e cx s) (ih.code t cx s)) rfl (by intro h0; rw [h0] at hl; cases hl)
    rw [hb] at r1
    have hi2 : Incl (vBool (ev s.T x) (.bad "cond") fun b => Bool.casesOn b (ih.code e cx s) (ih.code t cx s)) L := hi
    rw [hb] at hi2
    cases b with
    | true => exact wpIn_cond_true r1 (Wp.wpIn (hc t cx s n L ok3 hi2 F hF a w μ hs k Q hsat))
    | false => exact wpIn_cond_false r1 (Wp.wpIn (hc e cx s n L ok4 hi2 F hF a w μ hs k Q hsat))
  case block id b =>
    obtain ⟨l, h1, h2⟩ := blockR_incl (show Incl (blockR id (ih.code b cx s)) L from hi)
    exact wpIn_block (Wp.wpIn (hc b cx s n l hok (Incl.self h1) F hF a w μ hs k _ (block_post h2 hsat)))
  case loop b =>
    obtain ⟨l, h1, h2⟩ := (show Incl ((ih.code b cx s).bind fun s => ih.code (.loop b) cx s) L from hi).bind
    refine Wp.loop (Wp.wpIn (hc b cx s n l hok (Incl.self h1) F hF a w μ hs k _ (seq_post h2 hsat fun s' a' w' μ' g1 g2 g3 => ?_)))
    exact hc (.loop b) cx s' n L hok g3 F hF a' w' μ' g1 k Q (hsat.from g2)
  case rangeFunc f ps x y =>
    obtain ⟨ok1, ok2⟩ := okCode_and (show andb (okX n f) (andb (alll (fun t => Nat.blt t n) ps.toList) (andb (okCode n x) (okCode n y))) = true from hok)
    obtain ⟨ok3, ok4⟩ := okCode_and ok2
    obtain ⟨ok5, ok6⟩ := okCode_and ok4
    have hx : okT n (tmpOf f) := by
      intro y hy
      cases f <;> simp [tmpOf] at hy
      subst hy
      have h1 : Nat.blt _ n = true := ok1
      rwa [Nat.blt_eq] at h1
    rw [alll_eq, List.all_eq_true] at ok3
    exact range_code_ok hname hF hih hx (fun t ht => by have := ok3 t ht; rwa [Nat.blt_eq] at this) ok5 ok6 hs hi hsat
  case exit id => exact wpIn_exit (hsat _ _ (show Incl (.one (.exit id) s) L from hi).one _ _ _ hs (Fr.refl _ _ _))
  case label l => exact wpIn_label (hsat _ _ (show Incl (.one .normal s) L from hi).one _ _ _ hs (Fr.refl _ _ _))
  case ret => exact wpIn_ret (hsat _ _ (show Incl (.one .ret s) L from hi).one _ _ _ hs (Fr.refl _ _ _))

end

end Go.Sx
