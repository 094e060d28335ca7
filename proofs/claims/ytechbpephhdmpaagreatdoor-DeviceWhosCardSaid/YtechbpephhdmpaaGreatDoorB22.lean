/-
  SOUNDNESS OF THE ABSTRACT INTERPRETER, twenty-second part: rounds of a loop over a function; functions without a body; what is known.
-/
import Derived.Test.YtechbpephhdmpaaGreatDoorB21
namespace Go.Sx

section
variable {P : Program} {w : World} {μ : Mu} {h h' : H} {v : V} {n : Nat} {ih : Ev}

theorem setParams_rel (ps : List Tmp) : ∀ {T : Tr V} {tmps : Array Value} {args : List V} {argv : List Value}, TRel μ T n tmps → (∀ t ∈ ps, t < n) → All2 (VRel μ) args argv →
    TRel μ (setParams ps args T) n ((ps.zip argv).foldl (fun tmps (p : Tmp × Value) => tmps.setIfInBounds p.1 p.2) tmps) := by
  induction ps with
  | nil => intro T tmps args argv hT _ _; exact hT
  | cons p ps il =>
    intro T tmps args argv hT hp ha
    cases args with
    | nil =>
      have := ha.nil_left
      subst this
      rw [List.zip_nil_right]
      exact hT
    | cons x args =>
      obtain ⟨y, argv, rfl, h1, h2⟩ := ha.cons_left
      exact il (hT.set (hp p (by simp)) h1) (fun t ht => hp t (by simp [ht])) h2

theorem oLoop_list {o : O} {m : String} {f : Bool → Tr V → List Tmp → Code → Code → Nat → RC} {l : List (V × H)} (hi : (oLoop o (.bad m) f).list = some l) :
    ∃ busy T ps a b d, o = .loop busy T ps a b d ∧ (f busy T ps a b d).list = some l := by
  cases o <;> first
    | exact ⟨_, _, _, _, _, _, rfl, hi⟩
    | cases hi

theorem yield_ok (hc : CodeOk P ih) {l : Nat} {m : BI} {args : List V} {argv : Array Value} {L : List (V × H)} (hl : (evYield ih l args h).list = some L) (hm : μ l = some m) (ha : All2 (VRel μ) args argv.toList) (hr : HRel μ h w)
    {R : Value → World → Prop} (hp : CallPost h μ w L R) : Upon P R ((Instr.yield m.b argv).run P w) := by
  unfold evYield at hl
  obtain ⟨busy, T, ps, ca, cb, d, hg, hl2⟩ := oLoop_list hl
  cases busy with
  | true => cases hl2
  | false =>
  cases hlen : Nat.beq (lenl ps) (lenl args) with
  | false => simp only [hlen] at hl2; cases hl2
  | true =>
  simp only [hlen] at hl2
  have hl3 : (rdBody ih l cb (ih.code ca true ⟨setParams ps args T, [], h⟩)).list = some L := hl2
  rw [Nat.beq_eq, lenl_eq, lenl_eq] at hlen
  obtain ⟨r, md, n, k1, k2, k3, k4, k5, k6, k7, k8, k9, k10, k11, k12⟩ := hr.objAt hm hg (by simp)
  have hsz : argv.size = r.params.size := by
    have e1 : args.length = argv.size := by simpa using ha.length
    have e2 : r.params.size = ps.length := by rw [← k4]; simp
    omega
  have hrun : (Instr.yield m.b argv).run P w = .ok (.round m.b r.fn ((r.params.zip argv).foldl (fun tmps (t, a) => tmps.setIfInBounds t a) r.tmps) r.assign r.body) w := by
    have : ¬ (argv.size ≠ r.params.size) := fun h => h hsz
    simp only [Instr.yield, Sem.run_bind, run_getLoop k1, Result.andThen_ok, this, if_false, Sem.run_pure]
  rw [hrun]
  intro k
  cases hcode : ih.code ca true ⟨setParams ps args T, [], h⟩ with
  | bad q => rw [hcode] at hl3; cases hl3
  | many q => rw [hcode] at hl3; cases hl3
  | one e s =>
  rw [hcode] at hl3
  cases e with
  | exit id => cases hl3
  | ret => cases hl3
  | normal =>
  obtain ⟨busy2, T2, ps2, a2, b2, d2, hg2, hl4⟩ := oLoop_list (show (oLoop (s.h.get l) (.bad "round") _ : RC).list = some L from hl3)
  cases busy2 with
  | true => cases hl4
  | false =>
  cases hds : s.ds with
  | cons x y => simp only [hds] at hl4; cases hl4
  | nil =>
  simp only [hds] at hl4
  have hl5 : (rdEnd l (ih.code cb true ⟨s.T, [], s.h.set l (.loop true T2 ps2 a2 b2 d2)⟩)).list = some L := hl4
  cases hcode2 : ih.code cb true ⟨s.T, [], s.h.set l (.loop true T2 ps2 a2 b2 d2)⟩ with
  | bad q => rw [hcode2] at hl5; cases hl5
  | many q => rw [hcode2] at hl5; cases hl5
  | one e2 s2 =>
  rw [hcode2] at hl5
  cases e2 with
  | exit id => cases hl5
  | ret => cases hl5
  | normal =>
  obtain ⟨busy3, T3, ps3, a3, b3, d3, hg3, hl6⟩ := oLoop_list (show (oLoop (s2.h.get l) (.bad "round") _ : RC).list = some L from hl5)
  have hl7 : some [(bool true, s2.h.set l (.loop false T3 ps3 a3 b3 d3))] = some L := hl6
  cases hl7
  have hT0 : TRel μ (setParams ps args T) n ((r.params.zip argv).foldl (fun tmps (t, a) => tmps.setIfInBounds t a) r.tmps) := by
    have := setParams_rel ps k7 k12 ha
    have e : (r.params.zip argv).foldl (fun tmps (t, a) => tmps.setIfInBounds t a) r.tmps = (ps.zip argv.toList).foldl (fun tmps (p : Tmp × Value) => tmps.setIfInBounds p.1 p.2) r.tmps := by
      rw [← Array.foldl_toList, Array.toList_zip, k4]
    rw [e]
    exact this
  rw [k5, k6]
  refine roundIn_of_wpIn trivial ?_
  refine Wp.wpIn (hc ca true ⟨setParams ps args T, [], h⟩ n [(.normal, s)] k10 (by rw [hcode]; exact ⟨_, rfl, fun _ h => h⟩) (Fence.wide.inRound m.b) (.inr ⟨_, rfl, rfl⟩) { tmps := (r.params.zip argv).foldl (fun tmps (t, a) => tmps.setIfInBounds t a) r.tmps, defers := [] } w μ
    ⟨hT0, trivial, hr⟩ k _ ?_)
  intro e s' hm' a1 w1 μ1 hs1 hf1
  simp at hm'
  obtain ⟨rfl, rfl⟩ := hm'
  have hm1 := hf1.le _ _ hm
  obtain ⟨r2, md2, n2, j1, j2, j3, j4, j5, j6, j7, j8, j9, j10, j11, j12⟩ := hs1.hH.objAt hm1 hg2 (by simp)
  obtain ⟨w2, t1, t2, t3, _⟩ := hs1.hH.putObj (P := P) (o := .loop true T2 ps2 a2 b2 d2) (ob' := .loop { r2 with state := .busy }) hm1 (by rw [hg2]; simp) j1 (by simp)
    (fun w' hw' => ⟨_, md2, n2, hw', rfl, j3, j4, j5, j6, j7, j8, j9, j10, j11, j12⟩)
  show ∃ w2, _ ∧ _
  refine ⟨w2, ?_, ?_⟩
  · have j2' : r2.state = .ready := j2
    simp only [Instr.beginRound, Sem.run_bind, run_getLoop j1, Result.andThen_ok, t1, j2', Sem.run_pure]
  · refine Wp.wpIn (hc cb true ⟨s'.T, [], s'.h.set l (.loop true T2 ps2 a2 b2 d2)⟩ n [(.normal, s2)] k11 (by rw [hcode2]; exact ⟨_, rfl, fun _ h => h⟩) (Fence.wide.inRound m.b) (.inr ⟨_, rfl, rfl⟩) a1 w2 μ1 ⟨hs1.hT, ?_, t2⟩ k _ ?_)
    · have := hs1.hD
      rw [hds] at this
      exact this
    · intro e s3 hm3 a3' w3 μ3 hs3 hf3
      simp at hm3
      obtain ⟨rfl, rfl⟩ := hm3
      have hm3 := hf3.le _ _ hm1
      obtain ⟨r3, md3, n3, i1, i2, i3, i4, i5, i6, i7, i8, i9, i10, i11, i12⟩ := hs3.hH.objAt hm3 hg3 (by simp)
      obtain ⟨w4, u1, u2, u3, _⟩ := hs3.hH.putObj (P := P) (o := .loop false T3 ps3 a3 b3 d3) (ob' := .loop { r3 with state := .ready, pending := none }) hm3 (by rw [hg3]; simp) i1 (by simp)
        (fun w' hw' => ⟨_, md3, n3, hw', rfl, rfl, i4, i5, i6, i7, i8, i9, i10, i11, i12⟩)
      show ∃ v w', _ ∧ _
      refine ⟨.bool true, w4, ?_, hp _ _ (by simp) (.bool true) w4 μ3 (VRel.bool true) u2 (((hf1.trans t3).trans hf3).trans u3)⟩
      simp only [Instr.endRound, Sem.run_bind, run_getLoop i1, Result.andThen_ok, Option.isNone_none, if_true, u1, Sem.run_pure]

end

end Go.Sx
