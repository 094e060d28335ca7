/-
  SOUNDNESS OF THE ABSTRACT INTERPRETER, twenty-ninth part: regions that draw: their steps, and the whole.
-/
import Derived.Test.YtechbpephhdmpaaGreatDoorB28
namespace Go.Sx

theorem testBit_or_pow {lm i x : Nat} : (lm ||| 2 ^ i).testBit x = true ↔ lm.testBit x = true ∨ i = x := by
  rw [Nat.testBit_or, Bool.or_eq_true, Nat.testBit_two_pow, decide_eq_true_eq]
theorem testBit_or_pow_false {lm i x : Nat} : (lm ||| 2 ^ i).testBit x = false ↔ lm.testBit x = false ∧ i ≠ x := by
  rw [Nat.testBit_or, Bool.or_eq_false_iff, Nat.testBit_two_pow, decide_eq_false_iff_not]

theorem absorb_bit {h : H} {base lm : Nat} {l : List (Nat × O)} (hk : h.t.Ok hdepth) (hl : ∀ p ∈ l, base + p.1 < most) (hd : (l.map (·.1)).Nodup) {x : Nat} {o : O} (hx : (x, o) ∈ l) {j : Nat} (hj : j < most) :
    (absorb base (some (lm ||| 2 ^ x)) l h).get j = if base + x = j then o else (absorb base (some lm) l h).get j := by
  by_cases e : base + x = j
  · rw [if_pos e, ← e]
    exact absorb_mem hk hl hd hx (testBit_or_pow.2 (.inr rfl))
  · rw [if_neg e]
    by_cases hp : ∃ p ∈ l, lm.testBit p.1 = true ∧ base + p.1 = j
    · obtain ⟨⟨y, q⟩, h1, h2, h3⟩ := hp
      rw [← h3]
      rw [absorb_mem (m := some (lm ||| 2 ^ x)) hk hl hd h1 (show (lm ||| 2 ^ x).testBit y = true from testBit_or_pow.2 (.inl h2)), absorb_mem (m := some lm) hk hl hd h1 h2]
    · rw [absorb_not hk hl hj, absorb_not hk hl hj]
      · exact fun p h1 h2 h3 => hp ⟨p, h1, h2, h3⟩
      · intro p h1 h2 h3
        rcases testBit_or_pow.1 (show (lm ||| 2 ^ x).testBit p.1 = true from h2) with h4 | h4
        · exact hp ⟨p, h1, h4, h3⟩
        · exact e (by rw [h4]; exact h3)

theorem nodup_fst {l : List (Nat × O)} (hd : (l.map (·.1)).Nodup) {x : Nat} {o o' : O} (h : (x, o) ∈ l) (h' : (x, o') ∈ l) : o = o' := by
  induction l with
  | nil => cases h
  | cons p l ih =>
    rw [List.map_cons, List.nodup_cons] at hd
    rcases List.mem_cons.1 h with e | h1 <;> rcases List.mem_cons.1 h' with e' | h1'
    · rw [← e'] at e; exact congrArg (·.2) e
    · exact absurd (List.mem_map_of_mem (f := fun q : Nat × O => q.1) h1') (by rw [show x = p.1 from congrArg (·.1) e] at *; exact hd.1)
    · exact absurd (List.mem_map_of_mem (f := fun q : Nat × O => q.1) h1) (by rw [show x = p.1 from congrArg (·.1) e'] at *; exact hd.1)
    · exact ih hd.2 h1 h1'

section
variable {P : Program} {F : Fence} {cx : Bool} {k : Nat} {ops : Array Oper} {base : Nat} {ih : Ev} {K n : Nat} {ds : List D} {L : List (Ex × St)} {pl : List PO} {h0 : H} {μ0 : Mu} {w0 : World}
  {lm : Nat} {l r pd : List PO} {s : DS} {a : Act} {w : World} {μ : Mu} {Q : Exit → Act → World → Prop}

theorem Inv.part (hI : Inv P ops base ih K n ds L pl h0 μ0 w0 lm l pd s a w μ) : ∀ i, i < most → s.h.get i ≠ .gone → s.h.get i = (absorb base (some lm) s.aside s.h).get i := by
  intro i hi hl
  exact (absorb_not hI.sH hI.aLt hi fun p hp _ he => hl (by rw [← he]; exact (hI.aGone p hp).1)).symm

/-- the frame as it is, where an operation looks that waits for nothing any more -/
theorem Inv.agree (hp : PlOk P ops K n pl) (hI : Inv P ops base ih K n ds L pl h0 μ0 w0 lm l pd s a w μ) {y : PO} (hy : y ∈ pl) (hm : ∀ x, y.m.testBit x = true → lm.testBit x = true) {T' : Tr V}
    (hT : ∀ t, t < n → (∀ y ∈ pd, y.o.dst ≠ some t) → T'.get .any (tpath t) = s.T.get .any (tpath t)) : Agree s.T T' (ownTmps ops.toList y.o) := by
  intro t ht
  refine (hT t (own_lt hp.oper (hp.mem hy) t ht) fun z hz hd => ?_).symm
  have ho := hp.own hy ht
  rcases hp.later.pair (hI.pIn z hz) hy with h | h | h
  · subst h
    rw [hp.self z hy t hd] at ho
    cases ho
  · have hb := okBefore_spec h.1
    rcases hb.2 with h1 | ⟨_, h1⟩
    · have := hm _ h1
      rw [hI.pNot z hz] at this
      cases this
    · rw [h1 t hd] at ho
      cases ho
  · have := ((okBefore_spec h.1).1 t hd).1
    rw [ho] at this
    cases this

/-- an operation seen ahead is done -/
theorem Inv.listP (hp : PlOk P ops K n pl) (hI : Inv P ops base ih K n ds L pl h0 μ0 w0 lm l pd s a w μ) {y : PO} (hy : y ∈ pd) {v : V} (hv : ∀ t, y.o.dst = some t → s.T.get .any (tpath t) = v)
    {rv : Value} {w1 : World} {μ1 : Mu} (hr : VRel μ1 v rv) (hle : Mu.le μ μ1) (hH : HRel μ1 (absorb base (some (lm ||| 2 ^ y.i)) s.aside s.h) w1) (hF : Fr h0 μ0 w0 (absorb base (some (lm ||| 2 ^ y.i)) s.aside s.h) μ1 w1)
    (hfr : ∀ x, x < K → (lm ||| 2 ^ y.i).testBit x = false → μ1 (base + x) = none) :
    Inv P ops base ih K n ds L pl h0 μ0 w0 (lm ||| 2 ^ y.i) l (pd.filter fun z => z.i != y.i) s (a.put y.o.dst rv) w1 μ1 := by
  have hy' := hI.pIn y hy
  have mf : ∀ z, z ∈ pd.filter (fun z => z.i != y.i) ↔ z ∈ pd ∧ z.i ≠ y.i := by intro z; simp
  refine ⟨hI.lIn, fun z hz => hI.pIn z ((mf z).1 hz).1, fun z hz => ?_, fun z hz => ?_, fun z hz => ?_, hI.later, fun j hj z hz => hI.ord j ((mf j).1 hj).1 z hz, hI.hi, hI.sT, hI.n256, ?_, ?_, hI.sH, hH, hF, hI.h0n,
    fun z hz => hI.pend z ((mf z).1 hz).1, hI.aNodup, fun p hp' => ⟨(hI.aIn p hp').1, ?_⟩, hI.aGone, hfr, hI.aN⟩
  · exact testBit_or_pow_false.2 ⟨hI.lNot z hz, (hI.ord y hy z hz).2⟩
  · exact testBit_or_pow_false.2 ⟨hI.pNot z ((mf z).1 hz).1, fun e => ((mf z).1 hz).2 e.symm⟩
  · rcases hI.all z hz with h1 | h1 | h1
    · exact .inl (testBit_or_pow.2 (.inl h1))
    · by_cases e : z.i = y.i
      · exact .inl (testBit_or_pow.2 (.inr e.symm))
      · exact .inr (.inl ((mf z).2 ⟨h1, e⟩))
    · exact .inr (.inr h1)
  · obtain ⟨T', h1, h2⟩ := hI.hT
    refine ⟨put T' y.o.dst v, TRel.put (h1.mono hle) (hp.dst hy') hr, fun t ht hno => ?_⟩
    by_cases e : y.o.dst = some t
    · rw [e, get_put_self h1.ok h1.le ht, hv t e]
    · rw [get_put_ne h1.ok h1.le (hp.dst hy') ht v e]
      refine h2 t ht fun z hz hd => ?_
      by_cases ei : z.i = y.i
      · rw [hp.inj (hI.pIn z hz) hy' ei] at hd
        exact e hd
      · exact hno z ((mf z).2 ⟨hz, ei⟩) hd
  · have : (a.put y.o.dst rv).defers = a.defers := by unfold Act.put; cases y.o.dst <;> rfl
    rw [this]
    exact hI.hD.mono fun _ _ => DRel.mono hle
  · rcases (hI.aIn p hp').2 with h1 | ⟨z, h1, h2⟩
    · exact .inl (testBit_or_pow.2 (.inl h1))
    · by_cases e : z.i = y.i
      · exact .inl (testBit_or_pow.2 (.inr (e.symm.trans h2)))
      · exact .inr ⟨z, (mf z).2 ⟨h1, e⟩, h2⟩

/-- .. one that made no object -/
theorem Inv.listP0 (hp : PlOk P ops K n pl) (hI : Inv P ops base ih K n ds L pl h0 μ0 w0 lm l pd s a w μ) {y : PO} (hy : y ∈ pd) {v : V} (hv : ∀ t, y.o.dst = some t → s.T.get .any (tpath t) = v)
    (hno : ∀ p ∈ s.aside, p.1 ≠ y.i) {rv : Value} (hr : VRel μ v rv) :
    Inv P ops base ih K n ds L pl h0 μ0 w0 (lm ||| 2 ^ y.i) l (pd.filter fun z => z.i != y.i) s (a.put y.o.dst rv) w μ := by
  have e : absorb base (some (lm ||| 2 ^ y.i)) s.aside s.h = absorb base (some lm) s.aside s.h := absorb_congr fun p hp' => by
    show (lm ||| 2 ^ y.i).testBit p.1 = lm.testBit p.1
    cases h1 : lm.testBit p.1 with
    | true => exact testBit_or_pow.2 (.inl h1)
    | false => exact testBit_or_pow_false.2 ⟨h1, fun h => hno p hp' h.symm⟩
  exact hI.listP hp hy hv hr (Mu.le_refl _) (by rw [e]; exact hI.hH) (by rw [e]; exact hI.hF) fun x hx hb => hI.aFresh x hx (testBit_or_pow_false.1 hb).1

/-- what is asked of an operation that is taken -/
def Taken (F : Fence) (k : Nat) (P : Program) (ops : Array Oper) (Q : Exit → Act → World → Prop) (o : Oper) (K : Act → World → Prop) (a : Act) (w : World) : Prop :=
  if Region.wanted o (yielded ops a.tmps) = true then o.wpIn F k P a w K Q else (∀ f, o.about P w a.eval = some f → F.fn f) ∧ K (a.put o.dst undef) w

/-- an operation seen ahead is taken -/
theorem Inv.stepP (hF : FOk F cx) (hp : PlOk P ops K n pl) (hI : Inv P ops base ih K n ds L pl h0 μ0 w0 lm l pd s a w μ) {y : PO} (hy : y ∈ pd) (hm : ∀ x, y.m.testBit x = true → lm.testBit x = true)
    {KK : Act → World → Prop} (hK : ∀ l' pd' s' a' w' μ', Inv P ops base ih K n ds L pl h0 μ0 w0 (lm ||| 2 ^ y.i) l' pd' s' a' w' μ' → KK a' w') : Taken F k P ops Q y.o KK a w := by
  have hy' := hI.pIn y hy
  obtain ⟨T', hT, hag⟩ := hI.hT
  have ha := hI.agree hp hy' hm hag
  have hmem := hp.mem hy'
  have hoper := hp.oper _ hmem
  have hok := okOper_tmps hoper
  have hcls := (hp.ok y hy').c
  obtain ⟨v, hv, hd⟩ := hI.pend y hy
  unfold Taken
  have e1 : ∀ {b}, wanted ops.toList s.T y.o = some b → Region.wanted y.o (yielded ops a.tmps) = b := fun hw =>
    wanted_ok (s := ⟨T', ds, s.h⟩) hp.oper hT (by rw [← wanted_congr ha]; exact hw)
  rcases hv with ⟨hno, ⟨g2, rfl⟩ | ⟨g2, g3, hh, h', g4⟩ | ⟨g2, g3, ⟨h', g4⟩, g5⟩⟩ | ⟨g2, g3, tr, h', g4, g5, g6⟩
  · rw [e1 g2]
    simp only [Bool.false_eq_true, if_false]
    exact ⟨about_ok hF y.o, hK _ _ _ _ _ _ (hI.listP0 hp hy hd hno VRel.undef)⟩
  · rw [e1 g2]
    simp only [if_true]
    rw [opV_own ha] at g4
    refine ⟨about_ok hF y.o, ?_⟩
    rw [Oper.semAt_eq _ _ _ (opV_defer g4)]
    obtain ⟨_, h2⟩ := opQ_ok hT y.o hok (by rw [← hcls]; exact g3) g4
    obtain ⟨rv, h3, h4⟩ := h2 w
    rw [h3, Oper.uponIn_value]
    exact hK _ _ _ _ _ _ (hI.listP0 hp hy hd hno h4)
  · rw [e1 g2]
    simp only [if_true]
    rw [opV_own ha] at g4
    refine ⟨about_ok hF y.o, ?_⟩
    rw [Oper.semAt_eq _ _ _ (opV_defer g4)]
    have hs : HRel μ s.h w := hI.hH.part hI.sH (absorb_ok hI.sH).2.symm hI.part
    obtain ⟨_, rv, h3, h4⟩ := opL_ok hs hT y.o hok (by rw [← hcls]; exact g3) g4
    rw [h3, Oper.uponIn_value]
    exact hK _ _ _ _ _ _ (hI.listP0 hp hy hd hno h4)
  · rw [e1 g2]
    simp only [if_true]
    rw [opV_own ha] at g5
    refine ⟨about_ok hF y.o, ?_⟩
    rw [Oper.semAt_eq _ _ _ (opV_defer g5)]
    obtain ⟨h1, ob, rfl, h2⟩ := opA_ok hT y.o hok (by rw [← hcls]; exact g3) g5
    obtain ⟨obj, sz, rv, kk, h3, h4⟩ := h2 w
    rw [h3, Oper.uponIn_value]
    have hyK := hp.aK y hy' g3
    have hyn := hI.pNot y hy
    have hμ := hI.aFresh y.i hyK hyn
    have hlt := hI.leMost hyK
    have hob : (H.add ⟨tr, base + y.i⟩ ob).get (base + y.i) = ob := by
      rw [H.get_add g4 hlt hlt]
      simp
    rw [hob] at g6
    have hle := Mu.le_add μ ⟨w.heap.size, sz⟩ hμ
    have hnew : ({ w.alloc obj with drawn := w.drawn + kk } : World).heap[w.heap.size]? = some obj := by show (w.heap.push obj)[w.heap.size]? = some obj; simp
    obtain ⟨h5, h6⟩ := h4 _ { w.alloc obj with drawn := w.drawn + kk } hle (Mu.add_self _ _ _) hnew
    obtain ⟨k1, k2⟩ := hI.hH.addAt (R := absorb base (some (lm ||| 2 ^ y.i)) s.aside s.h) hI.hF (i := base + y.i) (by rw [(absorb_ok hI.sH).2]; have := hI.aN; omega) (by have := hI.h0n; omega) hμ (m := ⟨w.heap.size, sz⟩) (o := ob) rfl
      (by simp) (fun b hb => by show (w.heap.push obj)[b]? = _; simp [Array.getElem?_push, Nat.ne_of_lt hb]) h6 rfl rfl rfl (absorb_ok hI.sH).1 (by rw [(absorb_ok hI.sH).2, (absorb_ok hI.sH).2])
      (fun j hj => absorb_bit hI.sH hI.aLt hI.aNodup g6 hj)
    refine hK _ _ _ _ _ _ (hI.listP hp hy hd h5 hle k1 k2 fun x hx hb => ?_)
    obtain ⟨b1, b2⟩ := testBit_or_pow_false.1 hb
    rw [Mu.add_ne _ _ (by omega)]
    exact hI.aFresh x hx b1

/-- the next that acts on memory is done -/
theorem Inv.listY (hp : PlOk P ops K n pl) {y : PO} (hI : Inv P ops base ih K n ds L pl h0 μ0 w0 lm (y :: r) pd s a w μ) {v : V} {rv : Value} {h2 : H} {as2 : List (Nat × O)} {w2 : World} {μ2 : Mu}
    (hr : VRel μ2 v rv) (hle : Mu.le μ μ2) (hi : Incl (evDr P ih ops.toList base ds r ⟨put s.T y.o.dst v, h2, as2, s.lds⟩) L)
    (hsub : ∀ p ∈ as2, p ∈ s.aside) (hnd : (as2.map (·.1)).Nodup) (hkeep : ∀ j ∈ pd, ∀ o, (j.i, o) ∈ s.aside → (j.i, o) ∈ as2)
    (hlv : ∀ j ∈ pd, ∀ vj, (∃ h', opV P s.T s.h j.o.op = .val vj h') → (j, vj) ∈ s.lds → ∃ h', opV P s.T h2 j.o.op = .val vj h')
    (hk : h2.t.Ok hdepth) (hH : HRel μ2 (absorb base (some (lm ||| 2 ^ y.i)) as2 h2) w2) (hF : Fr h0 μ0 w0 (absorb base (some (lm ||| 2 ^ y.i)) as2 h2) μ2 w2)
    (hg : ∀ p ∈ as2, h2.get (base + p.1) = .gone) (hfr : ∀ x, x < K → lm.testBit x = false → μ2 (base + x) = none) (hN : base + K ≤ h2.n) :
    Inv P ops base ih K n ds L pl h0 μ0 w0 (lm ||| 2 ^ y.i) r pd ⟨put s.T y.o.dst v, h2, as2, s.lds⟩ (a.put y.o.dst rv) w2 μ2 := by
  have hy := hI.lIn y (by simp)
  refine ⟨fun z hz => hI.lIn z (List.mem_cons_of_mem _ hz), hI.pIn, fun z hz => ?_, fun z hz => ?_, fun z hz => ?_, hI.later.2, fun j hj z hz => hI.ord j hj z (List.mem_cons_of_mem _ hz), hi, put_ok hI.sT _ _, hI.n256, ?_, ?_, hk, hH, hF, hI.h0n,
    fun z hz => ?_, hnd, fun p hp' => ⟨(hI.aIn p (hsub p hp')).1, ?_⟩, fun p hp' => ⟨hg p hp', (hI.aGone p (hsub p hp')).2⟩, fun x hx hb => hfr x hx (testBit_or_pow_false.1 hb).1, hN⟩
  · exact testBit_or_pow_false.2 ⟨hI.lNot z (List.mem_cons_of_mem _ hz), (hI.later.1 z hz).2⟩
  · exact testBit_or_pow_false.2 ⟨hI.pNot z hz, fun e => (hI.ord z hz y (by simp)).2 e.symm⟩
  · rcases hI.all z hz with h1 | h1 | h1
    · exact .inl (testBit_or_pow.2 (.inl h1))
    · exact .inr (.inl h1)
    · rcases List.mem_cons.1 h1 with rfl | h1
      · exact .inl (testBit_or_pow.2 (.inr rfl))
      · exact .inr (.inr h1)
  · obtain ⟨T', h1, h2⟩ := hI.hT
    refine ⟨put T' y.o.dst v, TRel.put (h1.mono hle) (hp.dst hy) hr, fun t ht hno => ?_⟩
    show (put T' y.o.dst v).get .any (tpath t) = (put s.T y.o.dst v).get .any (tpath t)
    by_cases e : y.o.dst = some t
    · rw [e, get_put_self h1.ok h1.le ht, get_put_self hI.sT hI.n256 ht]
    · rw [get_put_ne h1.ok h1.le (hp.dst hy) ht v e, get_put_ne hI.sT hI.n256 (hp.dst hy) ht v e]
      exact h2 t ht hno
  · have : (a.put y.o.dst rv).defers = a.defers := by unfold Act.put; cases y.o.dst <;> rfl
    rw [this]
    exact hI.hD.mono fun _ _ => DRel.mono hle
  · obtain ⟨vz, k1, k2⟩ := hI.pend z hz
    have hzy := hI.ord z hz y (by simp)
    have hzi := hI.pIn z hz
    have hb := okBefore_spec hzy.1
    have ha : Agree s.T (put s.T y.o.dst v) (ownTmps ops.toList z.o) := fun t ht => by
      have h1 : y.o.dst ≠ some t := fun e => by
        have := (hb.1 t e).1
        rw [hp.own hzi ht] at this
        cases this
      exact (get_put_ne hI.sT hI.n256 (hp.dst hy) (own_lt hp.oper (hp.mem hzi) t ht) v h1).symm
    refine ⟨vz, k1.move ha (fun _ h1 h2 => ⟨hlv z hz vz h1 h2, h2⟩) (fun h p hp' => h p (hsub p hp')) (hkeep z hz), fun t ht => ?_⟩
    show (put s.T y.o.dst v).get .any (tpath t) = vz
    rw [get_put_ne hI.sT hI.n256 (hp.dst hy) (hp.dst hzi t ht) v fun e => (hb.1 t e).2 ht]
    exact k2 t ht
  · rcases (hI.aIn p (hsub p hp')).2 with h1 | h1
    · exact .inl (testBit_or_pow.2 (.inl h1))
    · exact .inr h1

theorem Inv.noAside {y : PO} (hI : Inv P ops base ih K n ds L pl h0 μ0 w0 lm (y :: r) pd s a w μ) : ∀ p ∈ s.aside, p.1 ≠ y.i := by
  intro p hp' he
  rcases (hI.aIn p hp').2 with h1 | ⟨z, h1, h2⟩
  · rw [he, hI.lNot y (by simp)] at h1; cases h1
  · exact (hI.ord z h1 y (by simp)).2 (h2.trans he)

/-- .. unwanted -/
theorem Inv.listU (hp : PlOk P ops K n pl) {y : PO} (hI : Inv P ops base ih K n ds L pl h0 μ0 w0 lm (y :: r) pd s a w μ) (hi : Incl (evDr P ih ops.toList base ds r (s.put y undef')) L) :
    Inv P ops base ih K n ds L pl h0 μ0 w0 (lm ||| 2 ^ y.i) r pd (s.put y undef') (a.put y.o.dst undef) w μ := by
  have hno := hI.noAside
  have e : absorb base (some (lm ||| 2 ^ y.i)) s.aside s.h = absorb base (some lm) s.aside s.h := absorb_congr fun p hp' => by
    show (lm ||| 2 ^ y.i).testBit p.1 = lm.testBit p.1
    cases h1 : lm.testBit p.1 with
    | true => exact testBit_or_pow.2 (.inl h1)
    | false => exact testBit_or_pow_false.2 ⟨h1, fun h => hno p hp' h.symm⟩
  exact hI.listY hp VRel.undef (Mu.le_refl _) hi (fun _ h => h) hI.aNodup (fun _ _ _ h => h) (fun _ _ _ h _ => h) hI.sH (by rw [e]; exact hI.hH) (by rw [e]; exact hI.hF) (fun p hp' => (hI.aGone p hp').1) hI.aFresh hI.aN

theorem readAgain_spec {T : Tr V} {h : H} {m : Nat} {lds : List (PO × V)} (hr : readAgain P T h m lds = true) {j : PO} {v : V} (hj : (j, v) ∈ lds) (hm : m.testBit j.i = false) : ∃ h', opV P T h j.o.op = .val v h' := by
  unfold readAgain at hr
  rw [alll_eq, List.all_eq_true] at hr
  have := hr _ hj
  rw [orb_eq, Bool.or_eq_true] at this
  rcases this with h1 | h1
  · have h1' : m.testBit j.i = true := h1
    rw [hm] at h1'; cases h1'
  · have h2 : isVal (opV P T h j.o.op) v = true := h1
    cases hv : opV P T h j.o.op with
    | val u h' =>
      rw [hv] at h2
      exact ⟨h', by rw [sameV_true (show sameV u v = true from h2)]⟩
    | bad => rw [hv] at h2; cases h2
    | fork q => rw [hv] at h2; cases h2
    | call f q => rw [hv] at h2; cases h2
    | dfr f q => rw [hv] at h2; cases h2

/-- .. wanted -/
theorem Inv.listW (hp : PlOk P ops K n pl) {y : PO} (hI : Inv P ops base ih K n ds L pl h0 μ0 w0 lm (y :: r) pd s a w μ) (hm : ∀ x, y.m.testBit x = true → lm.testBit x = true) {v : V} {rv : Value} {h' : H} {w' : World} {μ' : Mu}
    (hr : VRel μ' v rv) (hH : HRel μ' h' w') (hF : Fr (absorb base (some y.m) s.aside s.h) μ w h' μ' w') (hra : readAgain P s.T h' y.m s.lds = true)
    (hi : Incl (evDr P ih ops.toList base ds r ⟨put s.T y.o.dst v, h', stays y.m s.aside, s.lds⟩) L) :
    Inv P ops base ih K n ds L pl h0 μ0 w0 (lm ||| 2 ^ y.i) r pd ⟨put s.T y.o.dst v, h', stays y.m s.aside, s.lds⟩ (a.put y.o.dst rv) w' μ' := by
  have hno := hI.noAside
  have hst : ∀ p, p ∈ stays y.m s.aside ↔ p ∈ s.aside ∧ y.m.testBit p.1 = false := by intro p; rw [stays_eq]; simp
  have hNw : (absorb base (some y.m) s.aside s.h).n = s.h.n := (absorb_ok hI.sH).2
  have hN' := hF.n
  rw [hNw] at hN'
  have hsub : ∀ i, i < most → (absorb base (some y.m) s.aside s.h).get i ≠ .gone → (absorb base (some y.m) s.aside s.h).get i = (absorb base (some lm) s.aside s.h).get i := by
    intro i hi' hl
    by_cases hex : ∃ p ∈ s.aside, y.m.testBit p.1 = true ∧ base + p.1 = i
    · obtain ⟨⟨x, o⟩, h1, h2, h3⟩ := hex
      rw [← h3, absorb_mem (m := some y.m) hI.sH hI.aLt hI.aNodup h1 h2, absorb_mem (m := some lm) hI.sH hI.aLt hI.aNodup h1 (hm _ h2)]
    · have e : (absorb base (some y.m) s.aside s.h).get i = s.h.get i := absorb_not hI.sH hI.aLt hi' fun p h1 h2 h3 => hex ⟨p, h1, h2, h3⟩
      rw [e] at hl ⊢
      exact hI.part i hi' hl
  -- a set-aside object that stays
  have hout : ∀ p ∈ stays y.m s.aside, (absorb base (some y.m) s.aside s.h).get (base + p.1) = .gone := by
    intro p hp'
    obtain ⟨h1, h2⟩ := (hst p).1 hp'
    rw [absorb_not hI.sH hI.aLt (hI.aLt p h1), (hI.aGone p h1).1]
    intro q _ h4 h5
    have h4' : y.m.testBit q.1 = true := h4
    rw [show q.1 = p.1 by omega, h2] at h4'
    cases h4'
  have hfresh : ∀ x, x < K → lm.testBit x = false → μ' (base + x) = none := by
    intro x hx hb
    refine Classical.byContradiction fun hne => ?_
    have := hF.new _ (hI.aFresh x hx hb) hne
    rw [hNw] at this
    have := hI.aN
    omega
  have hgone : ∀ p ∈ stays y.m s.aside, h'.get (base + p.1) = .gone := by
    intro p hp'
    obtain ⟨h1, h2⟩ := (hst p).1 hp'
    cases hb : lm.testBit p.1 with
    | true =>
      refine frame_gone hI.hH hsub hF (hI.aLt p h1) ?_ (hout p hp')
      rw [absorb_mem (m := some lm) hI.sH hI.aLt hI.aNodup (show (p.1, p.2) ∈ s.aside from h1) hb]
      exact (hI.aGone p h1).2
    | false =>
      refine Classical.byContradiction fun hne => ?_
      obtain ⟨m, g1, _⟩ := hH.obj _ (hI.aLt p h1) hne
      rw [hfresh p.1 (hI.aIn p h1).1 hb] at g1
      cases g1
  have hnd : ((stays y.m s.aside).map (·.1)).Nodup := by rw [stays_eq]; exact hI.aNodup.sublist (List.Sublist.map _ List.filter_sublist)
  have hlt2 : ∀ p ∈ stays y.m s.aside, base + p.1 < most := fun p hp' => hI.aLt p ((hst p).1 hp').1
  obtain ⟨f1, f2⟩ := frame_rel (R := absorb base (some (lm ||| 2 ^ y.i)) (stays y.m s.aside) h') hI.hH (by rw [hNw, (absorb_ok hI.sH).2]) hsub hH hF (absorb_ok hH.ok).1 (absorb_ok hH.ok).2 (by
    intro i hi' hl
    by_cases hex : ∃ p ∈ stays y.m s.aside, (lm ||| 2 ^ y.i).testBit p.1 = true ∧ base + p.1 = i
    · obtain ⟨⟨x, o⟩, h1, h2, h3⟩ := hex
      obtain ⟨h4, h5⟩ := (hst _).1 h1
      have h6 : lm.testBit x = true := by
        rcases testBit_or_pow.1 h2 with h6 | h6
        · exact h6
        · exact absurd h6.symm (hno _ h4)
      right
      subst h3
      rw [absorb_mem (m := some (lm ||| 2 ^ y.i)) hH.ok hlt2 hnd h1 h2, absorb_mem (m := some lm) hI.sH hI.aLt hI.aNodup h4 h6]
      exact ⟨rfl, (hI.aGone _ h4).2, hout _ h1⟩
    · left
      have e : (absorb base (some (lm ||| 2 ^ y.i)) (stays y.m s.aside) h').get i = h'.get i := absorb_not hH.ok hlt2 hi' fun p h1 h2 h3 => hex ⟨p, h1, h2, h3⟩
      rw [e] at hl
      exact ⟨e, hl⟩)
  refine hI.listY hp hr hF.le hi (fun p hp' => ((hst p).1 hp').1) hnd (fun j hj o ho => (hst _).2 ⟨ho, ?_⟩) (fun j hj vj _ hlds => readAgain_spec hra hlds ?_) hH.ok f1 (hI.hF.trans f2) hgone hfresh (by have := hI.aN; omega)
  all_goals
    cases hb : y.m.testBit j.i with
    | false => rfl
    | true => have := hm _ hb; rw [hI.pNot j hj] at this; cases this

/-- the next that acts on memory is taken -/
theorem Inv.stepW (hF : FOk F cx) (hih : CallOk P ih) (hp : PlOk P ops K n pl) {y : PO} (hI : Inv P ops base ih K n ds L pl h0 μ0 w0 lm (y :: r) pd s a w μ) (hc : y.c = .w) (hm : ∀ x, y.m.testBit x = true → lm.testBit x = true)
    {KK : Act → World → Prop} (hK : ∀ l' pd' s' a' w' μ', Inv P ops base ih K n ds L pl h0 μ0 w0 (lm ||| 2 ^ y.i) l' pd' s' a' w' μ' → KK a' w') : Taken F k P ops Q y.o KK a w := by
  have hy' := hI.lIn y (by simp)
  obtain ⟨T', hT, hag⟩ := hI.hT
  have ha := hI.agree hp hy' hm hag
  have hmem := hp.mem hy'
  have hoper := hp.oper _ hmem
  have hok := okOper_tmps hoper
  have hpo := hp.ok y hy'
  have hcls : cls P y.o.op = .w := by rw [← hpo.c]; exact hc
  unfold Taken
  have e1 : ∀ {b}, wanted ops.toList s.T y.o = some b → Region.wanted y.o (yielded ops a.tmps) = b := fun hw =>
    wanted_ok (s := ⟨T', ds, s.h⟩) hp.oper hT (by rw [← wanted_congr ha]; exact hw)
  have hi : Incl (Bool.casesOn y.q.mv (Option.casesOn (wanted ops.toList s.T y.o) (.bad "wanted") (fun b => Bool.casesOn b (evDr P ih ops.toList base ds r (s.put y undef')) (drGo P ih base y (evDr P ih ops.toList base ds r) s)))
    (evDr P ih ops.toList base ds r ⟨s.T.set (ev s.T y.q.x) y.q.dp, s.h, s.aside, s.lds⟩)) L := hI.hi
  cases hmv : y.q.mv with
  | true =>
    exfalso
    rw [hpo.q] at hmv
    obtain ⟨x, d, h1, _⟩ := qo_mv hmv
    rcases h1 with h1 | h1 <;> rw [h1] at hcls <;> cases hcls
  | false =>
  rw [hmv] at hi
  have hi2 : Incl (Option.casesOn (wanted ops.toList s.T y.o) (.bad "wanted") (fun b => Bool.casesOn b (evDr P ih ops.toList base ds r (s.put y undef')) (drGo P ih base y (evDr P ih ops.toList base ds r) s))) L := hi
  cases hwa : wanted ops.toList s.T y.o with
  | none => rw [hwa] at hi2; exact hi2.bad.elim
  | some b =>
  rw [hwa] at hi2
  rw [e1 hwa]
  cases b with
  | false =>
    simp only [Bool.false_eq_true, if_false]
    exact ⟨about_ok hF y.o, hK _ _ _ _ _ _ (hI.listU hp hi2)⟩
  | true =>
  simp only [if_true]
  have hi3 : Incl (drGo P ih base y (evDr P ih ops.toList base ds r) s) L := hi2
  unfold drGo at hi3
  rw [hc] at hi3
  have hi4 : Incl (drW P ih y (evDr P ih ops.toList base ds r) s (absorb base (some y.m) s.aside s.h)) L := hi3
  clear hi hi2 hi3
  have hsub : HRel μ (absorb base (some y.m) s.aside s.h) w := by
    refine hI.hH.part (absorb_ok hI.sH).1 (by rw [(absorb_ok hI.sH).2, (absorb_ok hI.sH).2]) fun i hi' hl => ?_
    by_cases hex : ∃ p ∈ s.aside, y.m.testBit p.1 = true ∧ base + p.1 = i
    · obtain ⟨⟨x, o⟩, h1, h2, h3⟩ := hex
      rw [← h3, absorb_mem (m := some y.m) hI.sH hI.aLt hI.aNodup h1 h2, absorb_mem (m := some lm) hI.sH hI.aLt hI.aNodup h1 (hm _ h2)]
    · have e : (absorb base (some y.m) s.aside s.h).get i = s.h.get i := absorb_not hI.sH hI.aLt hi' fun p h1 h2 h3 => hex ⟨p, h1, h2, h3⟩
      rw [e] at hl ⊢
      exact hI.part i hi' hl
  have hnext : ∀ {v h' rv w' μ'}, Incl (drNext P y (evDr P ih ops.toList base ds r) s v h') L → VRel μ' v rv → HRel μ' h' w' → Fr (absorb base (some y.m) s.aside s.h) μ w h' μ' w' → KK (a.put y.o.dst rv) w' := by
    intro v h' rv w' μ' hn h1 h2 h3
    unfold drNext at hn
    cases hra : readAgain P s.T h' y.m s.lds with
    | false => rw [hra] at hn; exact hn.bad.elim
    | true =>
      rw [hra] at hn
      exact hK _ _ _ _ _ _ (hI.listW hp hm h1 h2 h3 hra hn)
  unfold drW at hi4
  refine ⟨about_ok hF y.o, ?_⟩
  cases hv : opV P s.T (absorb base (some y.m) s.aside s.h) y.o.op with
  | bad => rw [hv] at hi4; exact hi4.bad.elim
  | fork q => rw [hv] at hi4; exact hi4.bad.elim
  | dfr f q => rw [hv] at hi4; exact hi4.bad.elim
  | val v h' =>
    rw [hv] at hi4
    have hi5 : Incl (drNext P y (evDr P ih ops.toList base ds r) s v h') L := hi4
    rw [opV_own ha] at hv
    rw [Oper.semAt_eq _ _ _ (opV_defer hv)]
    exact (op_ok hsub hT y.o hok hv).upon fun rv w' μ' h1 h2 h3 => hnext hi5 h1 h2 h3
  | call f args =>
    rw [hv] at hi4
    have hi5 : Incl (Bool.casesOn (Nat.beq (opNo y.o.op) 2) (.bad y.o.pos) ((ih.call f args (absorb base (some y.m) s.aside s.h)).bindR (drNext P y (evDr P ih ops.toList base ds r) s))) L := hi4
    cases hb : Nat.beq (opNo y.o.op) 2 with
    | false => rw [hb] at hi5; exact hi5.bad.elim
    | true =>
      rw [hb] at hi5
      rw [Nat.beq_eq] at hb
      obtain ⟨q, hl, hl2⟩ := (show Incl (RC.bindR _ _) L from hi5).bindR
      rw [opV_own ha] at hv
      clear hi4 hi5
      generalize y.o = o at *
      obtain ⟨dst, op, ty, pos, after, guard⟩ := o
      obtain ⟨fo, ao, ats, hop⟩ := opNo_call hb
      have hop' : op = .call ⟨.value fo, ao, ats⟩ := hop
      subst hop'
      cases hv
      rw [Oper.semAt_eq _ _ _ (by simp)]
      exact (call_ok hih hT hsub hok hl (R := fun rv w' => KK (a.put dst rv) w') fun v h' hmm rv w' μ' h1 h2 h3 => hnext (hl2 _ hmm) h1 h2 h3).uponIn hF fun _ _ h => h

end

end Go.Sx
