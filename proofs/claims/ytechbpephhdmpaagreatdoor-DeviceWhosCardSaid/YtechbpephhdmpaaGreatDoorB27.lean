/-
  SOUNDNESS OF THE ABSTRACT INTERPRETER, twenty-seventh part: objects set aside.
-/
import Derived.Test.YtechbpephhdmpaaGreatDoorB26
namespace Go.Sx

section
variable {h : H} {base : Nat}

def selB (m : Option Nat) (x : Nat) : Bool := Option.casesOn m true (fun m => Nat.testBit m x)

theorem absorb_cons (m : Option Nat) (p : Nat × O) (l : List (Nat × O)) (h : H) :
    absorb base m (p :: l) h = if selB m p.1 = true then (absorb base m l h).set (base + p.1) p.2 else absorb base m l h := by
  have e : absorb base m (p :: l) h = Bool.casesOn (selB m p.1) (absorb base m l h) ((absorb base m l h).set (Nat.add base p.1) p.2) := rfl
  rw [e]
  cases selB m p.1 <;> rfl

theorem absorb_congr {m m' : Option Nat} {l : List (Nat × O)} (hl : ∀ p ∈ l, selB m p.1 = selB m' p.1) : absorb base m l h = absorb base m' l h := by
  induction l with
  | nil => rfl
  | cons p l ih => rw [absorb_cons, absorb_cons, ih fun q hq => hl q (List.mem_cons_of_mem _ hq), hl p (by simp)]

theorem absorb_ok {m : Option Nat} {l : List (Nat × O)} (hk : h.t.Ok hdepth) : (absorb base m l h).t.Ok hdepth ∧ (absorb base m l h).n = h.n := by
  induction l with
  | nil => exact ⟨hk, rfl⟩
  | cons p l ih =>
    rw [absorb_cons]
    split
    · exact ⟨Tr.set_ok ih.1 _ _, ih.2⟩
    · exact ih

theorem absorb_not {m : Option Nat} {l : List (Nat × O)} (hk : h.t.Ok hdepth) (hl : ∀ p ∈ l, base + p.1 < most) {i : Nat} (hi : i < most) (hn : ∀ p ∈ l, selB m p.1 = true → base + p.1 ≠ i) :
    (absorb base m l h).get i = h.get i := by
  induction l with
  | nil => rfl
  | cons p l ih =>
    have ih' := ih (fun q hq => hl q (List.mem_cons_of_mem _ hq)) fun q hq => hn q (List.mem_cons_of_mem _ hq)
    rw [absorb_cons]
    split
    · rename_i hs
      rw [H.get_set (absorb_ok hk).1 (hl p (by simp)) hi, if_neg (hn p (by simp) hs)]
      exact ih'
    · exact ih'

theorem absorb_mem {m : Option Nat} {l : List (Nat × O)} (hk : h.t.Ok hdepth) (hl : ∀ p ∈ l, base + p.1 < most) (hd : (l.map (·.1)).Nodup) {x : Nat} {o : O} (hx : (x, o) ∈ l) (hs : selB m x = true) :
    (absorb base m l h).get (base + x) = o := by
  induction l with
  | nil => cases hx
  | cons p l ih =>
    rw [List.map_cons, List.nodup_cons] at hd
    rw [absorb_cons]
    rcases List.mem_cons.1 hx with e | hx'
    · subst e
      have hx0 : base + x < most := hl _ hx
      rw [if_pos hs]
      show ((absorb base m l h).set (base + x) o).get (base + x) = o
      rw [H.get_set (absorb_ok hk).1 hx0 hx0, if_pos rfl]
    · have ih' := ih (fun q hq => hl q (List.mem_cons_of_mem _ hq)) hd.2 hx'
      have hne : base + p.1 ≠ base + x := fun e => hd.1 (by
        have : p.1 = x := by omega
        rw [this]
        exact List.mem_map_of_mem (f := fun q : Nat × O => q.1) hx')
      split
      · rw [H.get_set (absorb_ok hk).1 (hl p (by simp)) (hl _ hx), if_neg hne]
        exact ih'
      · exact ih'

theorem stays_eq (m : Nat) (l : List (Nat × O)) : stays m l = l.filter fun p => !Nat.testBit m p.1 := by
  induction l with
  | nil => rfl
  | cons p l ih =>
    have e : stays m (p :: l) = Bool.casesOn (Nat.testBit m p.1) (p :: stays m l) (stays m l) := rfl
    rw [e, List.filter_cons, ih]
    cases Nat.testBit m p.1 <;> rfl
end

section
variable {P : Program} {w w' : World} {μ μ' : Mu} {h h' : H}

theorem HRel.congr (hr : HRel μ h w) (hk : h'.t.Ok hdepth) (hn : h'.n = h.n) (he : ∀ i, i < most → h'.get i = h.get i) : HRel μ h' w :=
  ⟨hk, by rw [hn]; exact hr.le, fun i m hm => by rw [hn]; exact hr.dom i m hm, fun i hi hl => by rw [he i hi] at hl ⊢; exact hr.obj i hi hl,
    fun i j mi mj hi hj hli hlj => by rw [he i hi] at hli; rw [he j hj] at hlj; exact hr.inj i j mi mj hi hj hli hlj⟩

/-- a part of memory -/
theorem HRel.part (hr : HRel μ h w) (hk : h'.t.Ok hdepth) (hn : h'.n = h.n) (he : ∀ i, i < most → h'.get i ≠ .gone → h'.get i = h.get i) : HRel μ h' w :=
  ⟨hk, by rw [hn]; exact hr.le, fun i m hm => by rw [hn]; exact hr.dom i m hm, fun i hi hl => by have e := he i hi hl; rw [e] at hl ⊢; exact hr.obj i hi hl,
    fun i j mi mj hi hj hli hlj => by have e1 := he i hi hli; have e2 := he j hj hlj; rw [e1] at hli; rw [e2] at hlj; exact hr.inj i j mi mj hi hj hli hlj⟩

/-- more ids, none of them used -/
theorem HRel.wide (hr : HRel μ h w) {n : Nat} (hn : h.n ≤ n) (hn' : n ≤ most) : HRel μ ⟨h.t, n⟩ w :=
  ⟨hr.ok, hn', fun i m hm => Nat.lt_of_lt_of_le (hr.dom i m hm) hn, hr.obj, hr.inj⟩

/-- what a step has left of a part, beside the rest -/
theorem frame_rel {hs h'' R : H} (hr : HRel μ h w) (hsn : hs.n = h.n) (hsub : ∀ i, i < most → hs.get i ≠ .gone → hs.get i = h.get i) (hr' : HRel μ' h'' w') (hf : Fr hs μ w h'' μ' w')
    (hok : R.t.Ok hdepth) (hn : R.n = h''.n)
    (key : ∀ i, i < most → R.get i ≠ .gone → (R.get i = h''.get i ∧ h''.get i ≠ .gone) ∨ (R.get i = h.get i ∧ h.get i ≠ .gone ∧ hs.get i = .gone)) :
    HRel μ' R w' ∧ Fr h μ w R μ' w' := by
  -- the rest's blocks are not the part's
  have apart : ∀ i m, i < most → h.get i ≠ .gone → hs.get i = .gone → μ i = some m → m.b < w.heap.size ∧ ∀ j mj, j < most → hs.get j ≠ .gone → μ j = some mj → mj.b ≠ m.b := by
    intro i m hi hl ho hm
    obtain ⟨m', g1, g2⟩ := hr.obj i hi hl
    rw [hm] at g1; cases g1
    refine ⟨g2.lt hl, fun j mj hj hlj hmj hb => ?_⟩
    have e := hsub j hj hlj
    have hlj' := hlj
    rw [e] at hlj
    have := hr.inj j i mj m hj hi hlj hl hmj hm hb
    exact hlj' (this ▸ ho)
  refine ⟨⟨hok, by rw [hn]; exact hr'.le, fun i m hm => by rw [hn]; exact hr'.dom i m hm, fun i hi hl => ?_, fun i j mi mj hi hj hli hlj hmi hmj hb => ?_⟩, ?_⟩
  · rcases key i hi hl with ⟨e, hl2⟩ | ⟨e, hl2, ho⟩
    · rw [e]; exact hr'.obj i hi hl2
    · rw [e]
      obtain ⟨m, g1, g2⟩ := hr.obj i hi hl2
      obtain ⟨a1, a2⟩ := apart i m hi hl2 ho g1
      exact ⟨m, hf.le _ _ g1, g2.mono hf.le (hf.keep _ a1 a2)⟩
  · rcases key i hi hli with ⟨_, l1⟩ | ⟨_, l1, o1⟩ <;> rcases key j hj hlj with ⟨_, l2⟩ | ⟨_, l2, o2⟩
    · exact hr'.inj i j mi mj hi hj l1 l2 hmi hmj hb
    · exfalso
      obtain ⟨m, g1, g2⟩ := hr.obj j hj l2
      obtain ⟨a1, a2⟩ := apart j m hj l2 o2 g1
      have := hf.le _ _ g1
      rw [hmj] at this; cases this
      rcases hf.own i mi hi l1 hmi with h4 | ⟨k, mk, hk, hlk, hmk, e⟩
      · omega
      · exact a2 k mk hk hlk hmk (e.trans hb)
    · exfalso
      obtain ⟨m, g1, g2⟩ := hr.obj i hi l1
      obtain ⟨a1, a2⟩ := apart i m hi l1 o1 g1
      have := hf.le _ _ g1
      rw [hmi] at this; cases this
      rcases hf.own j mj hj l2 hmj with h4 | ⟨k, mk, hk, hlk, hmk, e⟩
      · omega
      · exact a2 k mk hk hlk hmk (e.trans hb.symm)
    · obtain ⟨m, g1, _⟩ := hr.obj i hi l1
      obtain ⟨m2, g2, _⟩ := hr.obj j hj l2
      have t1 := hf.le _ _ g1
      have t2 := hf.le _ _ g2
      rw [hmi] at t1; cases t1
      rw [hmj] at t2; cases t2
      exact hr.inj i j mi mj hi hj l1 l2 g1 g2 hb
  · refine ⟨hf.le, by rw [hn]; have := hf.n; omega, fun i g1 g2 => by have := hf.new i g1 g2; omega, hf.size, fun b hb hno => hf.keep b hb fun i m hi hl hm => ?_, fun i m hi hl hm => ?_, hf.os, hf.tape, hf.output⟩
    · have e := hsub i hi hl
      rw [e] at hl
      exact hno i m hi hl hm
    · rcases key i hi hl with ⟨_, l1⟩ | ⟨_, l1, o1⟩
      · rcases hf.own i m hi l1 hm with h4 | ⟨k, mk, hk, hlk, hmk, e⟩
        · exact .inl h4
        · have e2 := hsub k hk hlk
          rw [e2] at hlk
          exact .inr ⟨k, mk, hk, hlk, hmk, e⟩
      · obtain ⟨m2, g1, _⟩ := hr.obj i hi l1
        have t1 := hf.le _ _ g1
        rw [hm] at t1; cases t1
        exact .inr ⟨i, m, hi, l1, g1, rfl⟩

/-- a step on a part leaves the rest's ids alone -/
theorem frame_gone {hs h'' : H} (hr : HRel μ h w) (hsub : ∀ i, i < most → hs.get i ≠ .gone → hs.get i = h.get i) (hf : Fr hs μ w h'' μ' w') {i : Nat} (hi : i < most)
    (hl : h.get i ≠ .gone) (ho : hs.get i = .gone) : h''.get i = .gone := by
  refine Classical.byContradiction fun hne => ?_
  obtain ⟨m, g1, g2⟩ := hr.obj i hi hl
  have g3 := hf.le _ _ g1
  rcases hf.own i m hi hne g3 with h4 | ⟨k, mk, hk, hlk, hmk, e⟩
  · have := g2.lt hl
    omega
  · have e2 := hsub k hk hlk
    have hlk' := hlk
    rw [e2] at hlk
    have := hr.inj k i mk m hk hi hlk hl hmk g1 e
    exact hlk' (this ▸ ho)

/-- a new object at an id that was kept free -/
theorem HRel.addAt {h0 : H} {μ0 : Mu} {w0 : World} (hr : HRel μ h w) (hf : Fr h0 μ0 w0 h μ w) {i : Nat} (hi : i < h.n) (hi0 : h0.n ≤ i) (hμ : μ i = none) {m : BI} {o : O} {R : H} (hb : m.b = w.heap.size) (hs : w.heap.size ≤ w'.heap.size)
    (hk : ∀ b, b < w.heap.size → w'.heap[b]? = w.heap[b]?) (ho : ORel (μ.add i m) m w' o) (e1 : w'.os = w.os) (e2 : w'.tape = w.tape) (e3 : w'.output = w.output)
    (hok : R.t.Ok hdepth) (hn : R.n = h.n) (hget : ∀ j, j < most → R.get j = if i = j then o else h.get j) :
    HRel (μ.add i m) R w' ∧ Fr h0 μ0 w0 R (μ.add i m) w' := by
  have hle := Mu.le_add μ m hμ
  constructor
  · refine ⟨hok, by rw [hn]; exact hr.le, ?_, ?_, ?_⟩
    · intro j x hj
      rw [hn]
      by_cases e : j = i
      · rw [e]; exact hi
      · rw [Mu.add_ne _ _ e] at hj; exact hr.dom _ _ hj
    · intro j hj hl
      rw [hget j hj] at hl ⊢
      by_cases e : i = j
      · rw [if_pos e]; exact ⟨m, by rw [← e]; simp, ho⟩
      · rw [if_neg e] at hl ⊢
        obtain ⟨x, h1, h2⟩ := hr.obj j hj hl
        exact ⟨x, hle _ _ h1, h2.mono hle (hk _ (h2.lt hl))⟩
    · intro a b ma mb ha hb' hla hlb hma hmb hbb
      rw [hget a ha] at hla
      rw [hget b hb'] at hlb
      by_cases ea : i = a <;> by_cases eb : i = b
      · omega
      · exfalso
        rw [if_neg eb] at hlb
        rw [← ea, Mu.add_self] at hma; cases hma
        rw [Mu.add_ne _ _ (fun e => eb e.symm)] at hmb
        obtain ⟨x, h1, h2⟩ := hr.obj b hb' hlb
        rw [hmb] at h1; cases h1
        have := h2.lt hlb
        omega
      · exfalso
        rw [if_neg ea] at hla
        rw [← eb, Mu.add_self] at hmb; cases hmb
        rw [Mu.add_ne _ _ (fun e => ea e.symm)] at hma
        obtain ⟨x, h1, h2⟩ := hr.obj a ha hla
        rw [hma] at h1; cases h1
        have := h2.lt hla
        omega
      · rw [if_neg ea] at hla
        rw [if_neg eb] at hlb
        rw [Mu.add_ne _ _ (fun e => ea e.symm)] at hma
        rw [Mu.add_ne _ _ (fun e => eb e.symm)] at hmb
        exact hr.inj a b ma mb ha hb' hla hlb hma hmb hbb
  · refine ⟨Mu.le_trans hf.le hle, by rw [hn]; exact hf.n, ?_, Nat.le_trans hf.size hs, ?_, ?_, e1.trans hf.os, e2.trans hf.tape, e3.trans hf.output⟩
    · intro j h1 h2
      by_cases e : j = i
      · omega
      · rw [Mu.add_ne _ _ e] at h2; exact hf.new j h1 h2
    · intro b hb' hno
      rw [hk b (Nat.lt_of_lt_of_le hb' hf.size)]
      exact hf.keep b hb' hno
    · intro j x hj hl hx
      rw [hget j hj] at hl
      by_cases e : i = j
      · left; rw [← e, Mu.add_self] at hx; cases hx; have := hf.size; omega
      · rw [if_neg e] at hl
        rw [Mu.add_ne _ _ (fun e' => e e'.symm)] at hx
        exact hf.own j x hj hl hx

theorem Fr.congr {h0 : H} {μ0 : Mu} {w0 : World} (hf : Fr h0 μ0 w0 h μ w) (hn : h'.n = h.n) (he : ∀ i, i < most → h'.get i = h.get i) : Fr h0 μ0 w0 h' μ w :=
  ⟨hf.le, by rw [hn]; exact hf.n, hf.new, hf.size, hf.keep, fun i m hi hl hm => hf.own i m hi (by rw [← he i hi]; exact hl) hm, hf.os, hf.tape, hf.output⟩
end

end Go.Sx
