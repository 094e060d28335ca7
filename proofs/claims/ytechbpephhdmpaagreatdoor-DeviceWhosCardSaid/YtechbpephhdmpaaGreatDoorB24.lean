/-
  SOUNDNESS OF THE ABSTRACT INTERPRETER, twenty-fourth part: a call in the part of memory that it reaches.
-/
import Derived.Test.YtechbpephhdmpaaGreatDoorB23
namespace Go.Sx

section
variable {P : Program} {w : World} {μ : Mu} {h h' : H} {v : V} {n : Nat} {ih : Ev} {ext : FuncId → Option X} {loc : FuncId → Bool}

theorem okIds_lt {l : List (Nat × O)} (h : okIds l = true) : ∀ p ∈ l, p.1 < most := by
  unfold okIds at h
  rw [alll_eq, List.all_eq_true] at h
  intro p hp
  have := h p hp
  rwa [Nat.blt_eq] at this

theorem overlay_ok {l : List (Nat × O)} (hl : ∀ p ∈ l, p.1 < most) (hk : h.t.Ok hdepth) : (overlay l h).t.Ok hdepth ∧ (overlay l h).n = h.n ∧
    ∀ i, i < most → (overlay l h).get i = match l.find? (fun p => p.1 == i) with | some p => p.2 | none => h.get i := by
  induction l with
  | nil => exact ⟨hk, rfl, fun _ _ => rfl⟩
  | cons p l il =>
    obtain ⟨h1, h2, h3⟩ := il fun q hq => hl q (by simp [hq])
    have e : overlay (p :: l) h = (overlay l h).set p.1 p.2 := rfl
    rw [e]
    refine ⟨Tr.set_ok h1 _ _, h2, fun i hi => ?_⟩
    rw [H.get_set h1 (hl p (by simp)) hi, List.find?_cons, h3 i hi]
    by_cases e : p.1 = i
    · simp [e]
    · have : (p.1 == i) = false := by simpa using e
      rw [if_neg e, this]

theorem clear_ok {l : List Nat} (hl : ∀ i ∈ l, i < most) (hk : h.t.Ok hdepth) : (clear l h).t.Ok hdepth ∧ ∀ i, i < most → (clear l h).get i = if i ∈ l then .gone else h.get i := by
  induction l with
  | nil => exact ⟨hk, fun _ _ => by simp [clear]⟩
  | cons j l il =>
    obtain ⟨h1, h2⟩ := il fun q hq => hl q (by simp [hq])
    have e : clear (j :: l) h = (clear l h).set j .gone := rfl
    rw [e]
    refine ⟨Tr.set_ok h1 _ _, fun i hi => ?_⟩
    rw [H.get_set h1 (hl j (by simp)) hi, h2 i hi]
    by_cases e : j = i
    · simp [e]
    · have : i ≠ j := fun h => e h.symm
      simp [e, this]

theorem reach_get (N : Nat) : ∀ (todo : List Nat) (acc : List (Nat × O)), (∀ p ∈ acc, p.2 = h.get p.1) → ∀ p ∈ reach h N todo acc, p.2 = h.get p.1 := by
  induction N with
  | zero => intro todo acc ha; exact ha
  | succ N il =>
    intro todo acc ha
    have e : reach h (N + 1) todo acc = List.casesOn todo acc (fun i todo => Bool.casesOn (hasId acc i)
      (Bool.casesOn (isGone (h.get i)) (reach h N (app (oIds (h.get i)) todo) (app acc [(i, h.get i)])) (reach h N todo acc)) (reach h N todo acc)) := rfl
    rw [e]
    cases todo with
    | nil => exact ha
    | cons i todo =>
      show ∀ p ∈ (Bool.casesOn (hasId acc i) (Bool.casesOn (isGone (h.get i)) (reach h N (app (oIds (h.get i)) todo) (app acc [(i, h.get i)])) (reach h N todo acc)) (reach h N todo acc) : List (Nat × O)), p.2 = h.get p.1
      cases hasId acc i with
      | true => exact il todo acc ha
      | false =>
        cases isGone (h.get i) with
        | true => exact il todo acc ha
        | false =>
          refine il _ _ fun p hp => ?_
          rw [app_eq, List.mem_append] at hp
          rcases hp with hp | hp
          · exact ha p hp
          · simp at hp
            rw [hp]

theorem H0_get (n i : Nat) : (H0 n).get i = .gone := Tr.get_full O.gone O.gone hdepth hdepth i (Nat.le_refl _)

theorem find_fst {l : List (Nat × O)} {i : Nat} {p : Nat × O} (h : l.find? (fun p => p.1 == i) = some p) : p ∈ l ∧ p.1 = i := by
  refine ⟨List.mem_of_find?_eq_some h, ?_⟩
  have := List.find?_some h
  simpa using this

/-- the part of memory that a call reaches -/
theorem sub_rel (hr : HRel μ h w) {r : List (Nat × O)} (hlt : ∀ p ∈ r, p.1 < most) (hget : ∀ p ∈ r, p.2 = h.get p.1) :
    HRel μ (overlay r (H0 h.n)) w ∧ (overlay r (H0 h.n)).n = h.n ∧ ∀ i, i < most → (overlay r (H0 h.n)).get i ≠ .gone → (overlay r (H0 h.n)).get i = h.get i ∧ i ∈ r.map (fun p => p.1) := by
  obtain ⟨h1, h2, h3⟩ := overlay_ok (h := H0 h.n) hlt (Tr.full_ok _ _)
  have hn : (overlay r (H0 h.n)).n = h.n := h2
  have key : ∀ i, i < most → (overlay r (H0 h.n)).get i ≠ .gone → (overlay r (H0 h.n)).get i = h.get i ∧ i ∈ r.map (fun p => p.1) := by
    intro i hi hl
    rw [h3 i hi] at hl ⊢
    cases hf : r.find? (fun p => p.1 == i) with
    | none => rw [hf] at hl; exact absurd (H0_get _ _) hl
    | some p =>
      obtain ⟨hp, rfl⟩ := find_fst hf
      exact ⟨hget p hp, List.mem_map_of_mem (f := fun p : Nat × O => p.1) hp⟩
  refine ⟨⟨h1, by rw [hn]; exact hr.le, fun i m hm => by rw [hn]; exact hr.dom i m hm, fun i hi hl => ?_, fun i j mi mj hi hj hli hlj => ?_⟩, hn, key⟩
  · obtain ⟨e, _⟩ := key i hi hl
    rw [e] at hl ⊢
    exact hr.obj i hi hl
  · obtain ⟨e1, _⟩ := key i hi hli
    obtain ⟨e2, _⟩ := key j hj hlj
    rw [e1] at hli
    rw [e2] at hlj
    exact hr.inj i j mi mj hi hj hli hlj

/-- what a call has left of its part, laid over the rest -/
theorem merge_rel {μ' : Mu} {w' : World} {h'' hs : H} (hr : HRel μ h w) {olds : List Nat} (holds : ∀ i ∈ olds, i < most) (hsn : hs.n = h.n) (hsub : ∀ i, i < most → hs.get i ≠ .gone → hs.get i = h.get i ∧ i ∈ olds)
    (hr' : HRel μ' h'' w') (hf : Fr hs μ w h'' μ' w') {E : List (Nat × O)} (hE : ∀ p ∈ E, p.1 < most) (hEg : ∀ p ∈ E, p.2 = h''.get p.1) {N : Nat} (hN : N ≤ most) (hN2 : h''.n ≤ N) :
    HRel μ' (overlay E ⟨(clear olds h).t, N⟩) w' ∧ Fr h μ w (overlay E ⟨(clear olds h).t, N⟩) μ' w' := by
  obtain ⟨c1, c2⟩ := clear_ok (h := h) holds hr.ok
  obtain ⟨h1, h2, h3⟩ := overlay_ok (h := ⟨(clear olds h).t, N⟩) hE c1
  have hn : (overlay E ⟨(clear olds h).t, N⟩).n = N := h2
  -- a live id: of the end, or of the rest
  have key : ∀ i, i < most → (overlay E ⟨(clear olds h).t, N⟩).get i ≠ .gone →
      ((overlay E ⟨(clear olds h).t, N⟩).get i = h''.get i ∧ h''.get i ≠ .gone) ∨ ((overlay E ⟨(clear olds h).t, N⟩).get i = h.get i ∧ h.get i ≠ .gone ∧ i ∉ olds) := by
    intro i hi hl
    rw [h3 i hi] at hl ⊢
    cases hf : E.find? (fun p => p.1 == i) with
    | some p =>
      rw [hf] at hl
      obtain ⟨hp, rfl⟩ := find_fst hf
      have := hEg p hp
      exact .inl ⟨this, fun h0 => hl (by show p.2 = _; rw [this]; exact h0)⟩
    | none =>
      rw [hf] at hl
      have e : (⟨(clear olds h).t, N⟩ : H).get i = (clear olds h).get i := rfl
      have hl' : (clear olds h).get i ≠ .gone := hl
      rw [c2 i hi] at hl'
      by_cases ho : i ∈ olds
      · rw [if_pos ho] at hl'; exact absurd rfl hl'
      · rw [if_neg ho] at hl'
        refine .inr ⟨?_, hl', ho⟩
        show (clear olds h).get i = h.get i
        rw [c2 i hi, if_neg ho]
  -- the rest's blocks are not the part's
  have apart : ∀ i m, i < most → h.get i ≠ .gone → i ∉ olds → μ i = some m → m.b < w.heap.size ∧ ∀ j mj, j < most → hs.get j ≠ .gone → μ j = some mj → mj.b ≠ m.b := by
    intro i m hi hl ho hm
    obtain ⟨m', g1, g2⟩ := hr.obj i hi hl
    rw [hm] at g1; cases g1
    refine ⟨g2.lt hl, fun j mj hj hlj hmj hb => ?_⟩
    obtain ⟨e, hjo⟩ := hsub j hj hlj
    rw [e] at hlj
    have := hr.inj j i mj m hj hi hlj hl hmj hm hb
    exact ho (this ▸ hjo)
  refine ⟨⟨h1, by rw [hn]; exact hN, fun i m hm => by rw [hn]; exact Nat.lt_of_lt_of_le (hr'.dom i m hm) hN2, fun i hi hl => ?_, fun i j mi mj hi hj hli hlj hmi hmj hb => ?_⟩, ?_⟩
  · rcases key i hi hl with ⟨e, hl2⟩ | ⟨e, hl2, ho⟩
    · rw [e]; exact hr'.obj i hi hl2
    · rw [e]
      obtain ⟨m, g1, g2⟩ := hr.obj i hi hl2
      obtain ⟨a1, a2⟩ := apart i m hi hl2 ho g1
      exact ⟨m, hf.le _ _ g1, g2.mono hf.le (hf.keep _ a1 a2)⟩
  · rcases key i hi hli with ⟨_, l1⟩ | ⟨_, l1, o1⟩ <;> rcases key j hj hlj with ⟨_, l2⟩ | ⟨_, l2, o2⟩
    · exact hr'.inj i j mi mj hi hj l1 l2 hmi hmj hb
    · exfalso
      obtain ⟨m, g1, g2⟩ := hr.obj j hj l2
      obtain ⟨a1, a2⟩ := apart j m hj l2 o2 g1
      have := hf.le _ _ g1
      rw [hmj] at this; cases this
      rcases hf.own i mi hi l1 hmi with h4 | ⟨k, mk, hk, hlk, hmk, e⟩
      · omega
      · exact a2 k mk hk hlk hmk (e.trans hb)
    · exfalso
      obtain ⟨m, g1, g2⟩ := hr.obj i hi l1
      obtain ⟨a1, a2⟩ := apart i m hi l1 o1 g1
      have := hf.le _ _ g1
      rw [hmi] at this; cases this
      rcases hf.own j mj hj l2 hmj with h4 | ⟨k, mk, hk, hlk, hmk, e⟩
      · omega
      · exact a2 k mk hk hlk hmk (e.trans hb.symm)
    · obtain ⟨m, g1, _⟩ := hr.obj i hi l1
      obtain ⟨m2, g2, _⟩ := hr.obj j hj l2
      have t1 := hf.le _ _ g1
      have t2 := hf.le _ _ g2
      rw [hmi] at t1; cases t1
      rw [hmj] at t2; cases t2
      exact hr.inj i j mi mj hi hj l1 l2 g1 g2 hb
  · refine ⟨hf.le, by rw [hn]; have := hf.n; omega, fun i g1 g2 => by have := hf.new i g1 g2; omega, hf.size, fun b hb hno => hf.keep b hb fun i m hi hl hm => ?_, fun i m hi hl hm => ?_, hf.os, hf.tape, hf.output⟩
    · obtain ⟨e, _⟩ := hsub i hi hl
      rw [e] at hl
      exact hno i m hi hl hm
    · rcases key i hi hl with ⟨_, l1⟩ | ⟨_, l1, o1⟩
      · rcases hf.own i m hi l1 hm with h4 | ⟨k, mk, hk, hlk, hmk, e⟩
        · exact .inl h4
        · obtain ⟨e2, _⟩ := hsub k hk hlk
          rw [e2] at hlk
          exact .inr ⟨k, mk, hk, hlk, hmk, e⟩
      · obtain ⟨m2, g1, _⟩ := hr.obj i hi l1
        have t1 := hf.le _ _ g1
        rw [hm] at t1; cases t1
        exact .inr ⟨i, m, hi, l1, g1, rfl⟩

end

end Go.Sx
