/-
  SOUNDNESS OF THE ABSTRACT INTERPRETER, twentieth part: functions.
-/
import Derived.Test.YtechbpephhdmpaaGreatDoorB19
namespace Go.Sx

section
variable {P : Program} {w : World} {μ : Mu} {h h' : H} {v : V} {n : Nat} {ih : Ev}

/-! ### entering -/

theorem setAll_ok (vs : List V) : ∀ (i d : Nat) (T : Tr V), T.Ok d → d ≤ 4 → i + vs.length ≤ 4 ^ d →
    (setAll vs i T).Ok d ∧ ∀ t, t < 4 ^ d → (setAll vs i T).get .any (tpath t) = if i ≤ t ∧ t < i + vs.length then (vs[t - i]?).getD .any else T.get .any (tpath t) := by
  induction vs with
  | nil =>
    intro i d T hk _ _
    refine ⟨hk, fun t _ => ?_⟩
    rw [if_neg]
    · rfl
    · simp
  | cons v vs il =>
    intro i d T hk hd hl
    simp at hl
    have e : setAll (v :: vs) i T = setAll vs (i + 1) (T.set v (tpath i)) := rfl
    rw [e]
    obtain ⟨h1, h2⟩ := il (i + 1) d (T.set v (tpath i)) (Tr.set_ok hk _ _) hd (by omega)
    refine ⟨h1, fun t ht => ?_⟩
    rw [h2 t ht]
    unfold tpath
    rw [Tr.get_set hk v .any 4 i t hd, Nat.mod_eq_of_lt (by omega : i < 4 ^ d), Nat.mod_eq_of_lt ht]
    by_cases e1 : t = i
    · subst e1
      rw [if_neg (by omega), if_pos rfl, if_pos (by simp)]
      simp
    · by_cases e2 : i + 1 ≤ t ∧ t < i + 1 + vs.length
      · rw [if_pos e2, if_pos (by simp; omega), show t - i = (t - (i + 1)) + 1 by omega, List.getElem?_cons_succ]
      · rw [if_neg e2, if_neg (fun h => e1 h.symm), if_neg (by simp; omega)]

theorem enter_rel {vs : List V} {argv : Array Value} (ha : All2 (VRel μ) vs argv.toList) (hn : n ≤ 256) (hl : vs.length ≤ n) : TRel μ (setAll vs 0 (T0 n)) n (argv ++ Array.replicate (n - argv.size) undef) := by
  have hlen : vs.length = argv.size := by simpa using ha.length
  have hd := tdepth_le n
  have hcap : n ≤ 4 ^ tdepth n := by
    rcases Nat.eq_zero_or_pos n with h0 | h0
    · rw [h0]; exact Nat.zero_le _
    · have := tdepth_lt hn (show n - 1 < n by omega); omega
  obtain ⟨h1, h2⟩ := setAll_ok vs 0 (tdepth n) (T0 n) (Tr.full_ok _ _) hd (by omega)
  refine ⟨h1, hn, by simp; omega, fun t ht => ?_⟩
  rw [h2 t (by omega)]
  by_cases e : t < vs.length
  · rw [if_pos ⟨Nat.zero_le _, by omega⟩, Nat.sub_zero]
    have ht1 : vs[t]? = some vs[t] := List.getElem?_eq_getElem e
    obtain ⟨x, hx1, hx2⟩ := ha.get ht1
    have hx1' : argv[t]? = some x := by simpa using hx1
    rw [ht1]
    have : (argv ++ Array.replicate (n - argv.size) undef).getD t undef = x := by
      rw [Array.getD_eq_getD_getElem?, Array.getElem?_append, if_pos (by omega), hx1']
      rfl
    rw [this]
    exact hx2
  · rw [if_neg (by omega)]
    have h3 : (T0 n).get .any (tpath t) = undef' := Tr.get_full _ _ _ _ _ hd
    rw [h3]
    have : (argv ++ Array.replicate (n - argv.size) undef).getD t undef = undef := by
      rw [Array.getD_eq_getD_getElem?, Array.getElem?_append, if_neg (by omega)]
      by_cases e2 : t - argv.size < n - argv.size
      · simp [e2]
      · simp [e2]
    rw [this]
    exact VRel.undef

/-! ### results -/

def resRun (tmps : Array Value) : ResultVar → Sem Value
  | .tmp t => pure (tmps.getD t undef)
  | .cell a t => do loadVar t (← asAddr (tmps.getD a undef))

theorem resOne_ok (hr : HRel μ h w) {T : Tr V} {tmps : Array Value} (hT : TRel μ T n tmps) {r : ResultVar} (hok : okRes n r = true) {u : U} (e : resOne P T h r = some u) :
    ∃ x, (resRun tmps r).run P w = .ok x w ∧ URel μ u x := by
  unfold resOne at e
  obtain ⟨v, h1, h2⟩ := ap_some e
  obtain ⟨u', rfl, h3⟩ := vU_ne (d := none) h2 (by simp)
  cases h3
  cases r with
  | tmp t =>
    have h1' : T.get .any (tpath t) = .u u := Option.some.inj h1
    have ht : Nat.blt t n = true := hok
    rw [Nat.blt_eq] at ht
    have := hT.rel t ht
    rw [h1'] at this
    exact ⟨_, rfl, this⟩
  | cell a t =>
    have ht : Nat.blt a n = true := hok
    rw [Nat.blt_eq] at ht
    have h1' : loadV P t (T.get .any (tpath a)) h = some (.u u) := h1
    have hra := hT.rel a ht
    obtain ⟨rv, h4, h5⟩ := loadV_ok hr h1' hra
    refine ⟨rv, ?_, h5⟩
    -- the address is one
    obtain ⟨g, g1, g2⟩ := ap_some h1'
    obtain ⟨sz, g3, g4⟩ := ap_some g2
    obtain ⟨i, o, g5, _⟩ := vPtr_ne (d := none) g4 (by simp)
    rw [g5] at hra
    obtain ⟨m, _, hm⟩ := ptr_rel hra
    show (do loadVar t (← asAddr (tmps.getD a undef)) : Sem Value).run P w = .ok rv w
    rw [hm] at h4 ⊢
    simp only [Instr.loadAt, Instr.sureAddr, Sem.run_bind, Sem.run_pure, Result.andThen_ok] at h4
    simp only [asAddr, Sem.run_bind, Sem.run_pure, Result.andThen_ok]
    exact h4

theorem results_list (hr : HRel μ h w) {T : Tr V} {tmps : Array Value} (hT : TRel μ T n tmps) {rs : List ResultVar} (hok : alll (okRes n) rs = true) {us : List U} (e : mapo (resOne P T h) rs = some us) :
    ∃ xs : List Value, (rs.mapM (resRun tmps)).run P w = .ok xs w ∧ All2 (URel μ) us xs := by
  induction rs generalizing us with
  | nil => cases e; exact ⟨[], rfl, trivial⟩
  | cons r rs il =>
    obtain ⟨u, h1, h2⟩ := ap_some (o := resOne P T h r) (f := fun y => ap (mapo (resOne P T h) rs) fun ys => some (y :: ys)) e
    obtain ⟨ys, h3, h4⟩ := ap_some h2
    cases h4
    rw [alll_eq, List.all_cons, Bool.and_eq_true, ← alll_eq] at hok
    obtain ⟨x, h5, h6⟩ := resOne_ok hr hT hok.1 h1
    obtain ⟨xs, h7, h8⟩ := il hok.2 h3
    refine ⟨x :: xs, ?_, h6, h8⟩
    rw [List.mapM_cons]
    simp only [Sem.run_bind, h5, Result.andThen_ok, h7, Sem.run_pure]

theorem results_ok (hr : HRel μ h w) {T : Tr V} {fn : Func} {tmps : Array Value} (hT : TRel μ T n tmps) (hok : alll (okRes n) fn.results.toList = true) {l : List (V × H)} (e : (resultsV P fn.results.toList T h).list = some l) :
    ∃ v rv, l = [(v, h)] ∧ (results fn tmps).run P w = .ok rv w ∧ VRel μ v rv := by
  unfold resultsV at e
  cases hm : mapo (resOne P T h) fn.results.toList with
  | none => rw [hm] at e; cases e
  | some us =>
    rw [hm] at e
    obtain ⟨xs, h1, h2⟩ := results_list hr hT hok hm
    have hrun : ∀ k : Array Value → Sem Value, ((do let vs ← fn.results.mapM (resRun tmps); k vs : Sem Value)).run P w = (k xs.toArray).run P w := by
      intro k
      rw [Array.mapM_eq_mapM_toList, map_eq_pure_bind]
      simp only [Sem.run_bind, h1, Result.andThen_ok, Sem.run_pure]
    have hres : results fn tmps = (do let vs ← fn.results.mapM (resRun tmps); pure (if h : vs.size = 1 then vs[0] else .tuple vs)) := by
      unfold results
      congr 1
    cases us with
    | nil =>
      cases e
      have hxs := h2.nil_left
      subst hxs
      exact ⟨_, .tuple #[], rfl, by rw [hres, hrun]; rfl, #[], rfl, trivial⟩
    | cons u us =>
      cases us with
      | nil =>
        cases e
        obtain ⟨x, r, rfl, h3, h4⟩ := h2.cons_left
        have hr2 := h4.nil_left
        subst hr2
        exact ⟨_, x, rfl, by rw [hres, hrun]; rfl, h3⟩
      | cons u2 us =>
        cases e
        obtain ⟨x, r, rfl, h3, h4⟩ := h2.cons_left
        obtain ⟨y, r2, rfl, h5, h6⟩ := h4.cons_left
        refine ⟨_, .tuple (x :: y :: r2).toArray, rfl, ?_, _, rfl, h3, h5, h6⟩
        rw [hres, hrun]
        have : ¬ ((x :: y :: r2).toArray.size = 1) := by simp
        rw [dif_neg this]
        rfl

end

end Go.Sx
