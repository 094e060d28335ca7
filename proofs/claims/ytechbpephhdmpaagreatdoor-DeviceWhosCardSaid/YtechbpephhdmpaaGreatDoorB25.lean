/-
  SOUNDNESS OF THE ABSTRACT INTERPRETER, twenty-fifth part: calls; the whole, by induction on the fuel.
-/
import Derived.Test.YtechbpephhdmpaaGreatDoorB24
namespace Go.Sx

theorem sameE_true {a b : E} (h : sameE a b = true) : a = b := by
  unfold sameE at h
  rw [andb_eq, andb_eq, Bool.and_eq_true, Bool.and_eq_true, Nat.beq_eq] at h
  obtain ⟨h1, h2, h3⟩ := h
  cases a; cases b
  have e1 := sameU_true h1
  have e2 := sameU_true h2
  simp only at e1 e2 h3
  rw [e1, e2, h3]
theorem sameO_true {a b : O} (h : sameO a b = true) : a = b := by
  cases a <;> cases b <;> first
    | (cases h; done)
    | skip
  case row.row e cs f e' cs' f' =>
    have h' : andb (Nat.beq e e') (andb (eqB f f') (eqL sameS cs cs')) = true := h
    rw [andb_eq, andb_eq, Bool.and_eq_true, Bool.and_eq_true, Nat.beq_eq, eqB_eq] at h'
    obtain ⟨h1, h2, h3⟩ := h'
    have h1' : e = e' := h1
    have h2' : f = f' := by simpa using h2
    rw [h1', h2', eqL_true (fun _ _ => sameS_true) h3]
  case map.map es c es' c' =>
    have h' : andb (Nat.beq c c') (eqL sameE es es') = true := h
    rw [andb_eq, Bool.and_eq_true, Nat.beq_eq] at h'
    rw [h'.1, eqL_true (fun _ _ => sameE_true) h'.2]
theorem sameP_true {a b : Nat × O} (h : sameP a b = true) : a = b := by
  unfold sameP at h
  rw [andb_eq, Bool.and_eq_true, Nat.beq_eq] at h
  cases a; cases b
  have e := sameO_true h.2
  have e1 := h.1
  simp only at e e1
  rw [e, e1]

section
variable {P : Program} {w : World} {μ : Mu} {h h' : H} {v : V} {n : Nat} {ih : Ev} {ext : FuncId → Option X} {loc : FuncId → Bool}

theorem merge_ok {olds : List Nat} {l0 : List (V × H)} {l : List (V × H)} (hl : (mergeEnds h olds l0).list = some l) :
    ∃ N E, (∀ p ∈ E, p.1 < most) ∧ N ≤ most ∧ ∃ v, l = [(v, overlay E ⟨(clear olds h).t, N⟩)] ∧ ∀ q ∈ l0, q.1 = v ∧ q.2.n ≤ N ∧ endOf q.1 olds q.2 = E := by
  unfold mergeEnds at hl
  cases l0 with
  | nil => cases hl
  | cons p rest =>
    have hl2 : (mergeWith h olds p.1 (List.rec (motive := fun _ => Nat) p.2.n (fun q _ r => maxN q.2.n r) rest) (endOf p.1 olds p.2) (p :: rest)).list = some l := hl
    generalize (List.rec (motive := fun _ => Nat) p.2.n (fun q _ r => maxN q.2.n r) rest) = N at hl2
    generalize hE : endOf p.1 olds p.2 = E at hl2
    unfold mergeWith at hl2
    cases hb : andb (andb (okIds E) (Nat.ble N most)) (alll (fun q => andb (Nat.ble q.2.n N) (andb (sameV q.1 p.1) (eqL sameP (endOf q.1 olds q.2) E))) (p :: rest)) with
    | false => rw [hb] at hl2; cases hl2
    | true =>
      rw [hb] at hl2
      rw [andb_eq, andb_eq, Bool.and_eq_true, Bool.and_eq_true, ble_iff, alll_eq, List.all_eq_true] at hb
      obtain ⟨⟨b1, b2⟩, b3⟩ := hb
      have hl3 : some [(p.1, overlay E ⟨(clear olds h).t, N⟩)] = some l := hl2
      cases hl3
      refine ⟨N, E, okIds_lt b1, b2, p.1, rfl, fun q hq => ?_⟩
      have := b3 q hq
      rw [andb_eq, andb_eq, Bool.and_eq_true, Bool.and_eq_true, ble_iff] at this
      exact ⟨sameV_true this.2.1, this.1, eqL_true (fun _ _ => sameP_true) this.2.2⟩

theorem local_ok (hname : NameOk P) (hext : ExtOk P ext) (hc : CodeOk P ih) {f : FuncId} {args : List V} {argv : Array Value} {l : List (V × H)} {r : List (Nat × O)} (hget : ∀ p ∈ r, p.2 = h.get p.1)
    (hl : (evLocal (evFn P ext ih f) args h r).list = some l) (ha : All2 (VRel μ) args argv.toList) (hr : HRel μ h w) {R : Value → World → Prop} (hp : CallPost h μ w l R) : Upon P R ((callFunc f argv).run P w) := by
  unfold evLocal at hl
  cases hb : okIds r with
  | false => rw [hb] at hl; cases hl
  | true =>
  rw [hb] at hl
  have hlt := okIds_lt hb
  obtain ⟨s1, s2, s3⟩ := sub_rel hr hlt hget
  have holds : ∀ i ∈ r.map (fun p => p.1), i < most := by
    intro i hi
    obtain ⟨p, hp1, rfl⟩ := List.mem_map.1 hi
    exact hlt p hp1
  obtain ⟨l0, g1, g2⟩ : ∃ l0, (evFn P ext ih f args (overlay r (H0 h.n))).list = some l0 ∧ (mergeEnds h (r.map fun p => p.1) l0).list = some l := by
    have hl2 : (RC.casesOn (motive := fun _ => RC) (evFn P ext ih f args (overlay r (H0 h.n))) .bad (fun v h' => mergeEnds h (mapl (fun p => p.1) r) [(v, h')]) (fun l => mergeEnds h (mapl (fun p => p.1) r) l)).list = some l := hl
    cases hcall : evFn P ext ih f args (overlay r (H0 h.n)) with
    | bad m => rw [hcall] at hl2; cases hl2
    | one v h' => rw [hcall] at hl2; rw [mapl_eq] at hl2; exact ⟨_, rfl, hl2⟩
    | many q => rw [hcall] at hl2; rw [mapl_eq] at hl2; exact ⟨_, rfl, hl2⟩
  obtain ⟨N, E, e1, e2, v, rfl, e3⟩ := merge_ok g2
  refine fn_ok hname hext hc g1 ha s1 fun v' h'' hm rv w' μ' q1 q2 q3 => ?_
  obtain ⟨e4, e5, e6⟩ := e3 _ hm
  have e4' : v' = v := e4
  subst e4'
  have hEg : ∀ p ∈ E, p.2 = h''.get p.1 := by
    rw [← e6]
    exact reach_get 1000 _ _ (by simp)
  obtain ⟨m1, m2⟩ := merge_rel hr holds s2 s3 q2 q3 e1 hEg e2 e5
  exact hp _ _ (by simp) rv w' μ' q1 m1 m2

/-- a call -/
theorem call_sound (hname : NameOk P) (hext : ExtOk P ext) (hc : CodeOk P ih) (ev : Ev) (hev : ev.call = evCall P ext loc ih) : CallOk P ev := by
  intro f args h l hl fv argv μ w hf ha hr
  rw [hev] at hl
  have hl1 : (vS f (.bad "call") fun f => sFn f (.bad "call") (fun f a b => evFunc P ext loc ih f (app (mapl capV a) (app args (mapl capV b))) h) (fun l => evYield ih l args h) : RC).list = some l := hl
  have notbad : ∀ {r : RC}, r.list = some l → ∀ m, r ≠ .bad m := fun hrl m he => by rw [he] at hrl; cases hrl
  obtain ⟨x, rfl, hx⟩ := vS_ne (d := RC.bad "call") (r := _) rfl (notbad hl1 _)
  have hl2 : (sFn x (.bad "call") (fun f a b => evFunc P ext loc ih f (app (mapl capV a) (app args (mapl capV b))) h) (fun l => evYield ih l args h) : RC).list = some l := hl1
  rcases sFn_ne (d := RC.bad "call") (r := _) rfl (notbad hl2 _) with ⟨g, fa, fb, rfl, _⟩ | ⟨y, rfl, _⟩
  · obtain ⟨X, Y, rfl, hX, hY⟩ := one_rel hf
    refine ⟨_, rfl, fun R hp => ?_⟩
    show Upon P R ((callFunc g (X ++ argv ++ Y)).run P w)
    have hl3 : (evFunc P ext loc ih g (app (mapl capV fa) (app args (mapl capV fb))) h).list = some l := hl2
    have har := args_rel hX hY ha
    unfold evFunc at hl3
    cases hloc : loc g with
    | false => rw [hloc] at hl3; exact fn_ok hname hext hc hl3 har hr hp
    | true =>
      rw [hloc] at hl3
      exact local_ok hname hext hc (reach_get 1000 _ _ (by simp)) hl3 har hr hp
  · obtain ⟨m, hm, rfl⟩ := one_rel hf
    refine ⟨_, rfl, fun R hp => ?_⟩
    show Upon P R ((Instr.yield m.b (#[] ++ argv)).run P w)
    rw [Array.empty_append]
    exact yield_ok hc (show (evYield ih y args h).list = some l from hl2) hm ha hr hp

/-- the whole, given that regions that draw are sound -/
theorem run_sound (hname : NameOk P) (hext : ExtOk P ext) (hdraw : ∀ ev, CodeOk P ev → CallOk P ev → DrawOk P ev) (N : Nat) : CodeOk P (run P ext loc N) ∧ CallOk P (run P ext loc N) := by
  induction N with
  | zero => exact ⟨fun c cx s n L _ hi => (Incl.bad hi).elim, fun f args h l hl => by cases hl⟩
  | succ N il =>
    obtain ⟨i1, i2⟩ := il
    exact ⟨fun c cx s n L hok hi F hF a w μ hs k Q hsat => code_ok hname i1 i2 (hdraw _ i1 i2) c cx s n L hok hi F hF a w μ hs k Q hsat, call_sound hname hext i1 (run P ext loc (N + 1)) rfl⟩

end

end Go.Sx
