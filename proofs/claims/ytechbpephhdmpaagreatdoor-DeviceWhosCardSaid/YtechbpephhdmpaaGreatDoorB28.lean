/-
  SOUNDNESS OF THE ABSTRACT INTERPRETER, twenty-eighth part: regions that draw: what holds between the steps.
-/
import Derived.Test.YtechbpephhdmpaaGreatDoorB27
namespace Go.Sx

/-! ### frames -/

section
variable {n : Nat} {T : Tr V}
theorem get_setT (hk : T.Ok (tdepth n)) (hn : n ≤ 256) {d t : Nat} (hd : d < n) (ht : t < n) (v : V) : (T.set v (tpath d)).get .any (tpath t) = if d = t then v else T.get .any (tpath t) := by
  unfold tpath
  rw [Tr.get_set hk v .any 4 d t (tdepth_le n), Nat.mod_eq_of_lt (tdepth_lt hn hd), Nat.mod_eq_of_lt (tdepth_lt hn ht)]
theorem put_ok (hk : T.Ok (tdepth n)) (d : Option Tmp) (v : V) : (put T d v).Ok (tdepth n) := by
  cases d with
  | none => exact hk
  | some d => exact Tr.set_ok hk _ _
theorem get_put_ne (hk : T.Ok (tdepth n)) (hn : n ≤ 256) {d : Option Tmp} (hd : ∀ x, d = some x → x < n) {t : Nat} (ht : t < n) (v : V) (hne : d ≠ some t) : (put T d v).get .any (tpath t) = T.get .any (tpath t) := by
  cases d with
  | none => rfl
  | some d =>
    show (T.set v (tpath d)).get .any (tpath t) = _
    rw [get_setT hk hn (hd d rfl) ht, if_neg (fun e => hne (by rw [e]))]
theorem get_put_self (hk : T.Ok (tdepth n)) (hn : n ≤ 256) {t : Nat} (ht : t < n) (v : V) : (put T (some t) v).get .any (tpath t) = v := by
  show (T.set v (tpath t)).get .any (tpath t) = _
  rw [get_setT hk hn ht ht, if_pos rfl]
end

theorem own_lt {n : Nat} {ops : Array Oper} (hok : ∀ o ∈ ops.toList, okOper n o = true) {o : Oper} (ho : o ∈ ops.toList) : ∀ t ∈ ownTmps ops.toList o, t < n := by
  intro t ht
  unfold ownTmps at ht
  rcases List.mem_append.1 ht with ht | ht
  · exact okOper_tmps (hok o ho) t ht
  · cases hg : o.guard with
    | none => rw [hg] at ht; cases ht
    | some p =>
      obtain ⟨j, b⟩ := p
      rw [hg] at ht
      simp only at ht
      cases hj : nth? ops.toList j with
      | none => simp only [hj] at ht; cases ht
      | some g =>
        simp only [hj] at ht
        rw [nth?_eq] at hj
        have hg' := List.mem_of_getElem? hj
        cases hd : g.dst with
        | none => rw [hd] at ht; cases ht
        | some d =>
          rw [hd] at ht
          have : t = d := by simpa using ht
          rw [this]
          exact okOper_dst (hok g hg') d hd

/-! ### the plan -/

structure PlOk (P : Program) (ops : Array Oper) (K n : Nat) (pl : List PO) : Prop where
  ok : ∀ y ∈ pl, PlanOk P ops.toList y
  later : Later (fun x y => okBefore x y = true ∧ x.i ≠ y.i) pl
  self : ∀ y ∈ pl, ∀ t, y.o.dst = some t → y.own.testBit t = false
  seq : Seq 0 pl
  len : pl.length ≤ ops.size
  cov : ∀ i, i < ops.size → ∃ y ∈ pl, y.i = i
  oper : ∀ o ∈ ops.toList, okOper n o = true
  aK : ∀ y ∈ pl, y.c = .a → y.i < K

section
variable {P : Program} {ops : Array Oper} {K n : Nat} {pl : List PO}

theorem PlOk.mem (hp : PlOk P ops K n pl) {y : PO} (hy : y ∈ pl) : y.o ∈ ops.toList := List.mem_of_getElem? (hp.ok y hy).o
theorem PlOk.at (hp : PlOk P ops K n pl) {y : PO} (hy : y ∈ pl) : ops[y.i]? = some y.o := by simpa using (hp.ok y hy).o
theorem PlOk.lt (hp : PlOk P ops K n pl) {y : PO} (hy : y ∈ pl) : y.i < ops.size := (Array.getElem?_eq_some_iff.1 (hp.at hy)).1
theorem PlOk.own (hp : PlOk P ops K n pl) {y : PO} (hy : y ∈ pl) {t : Nat} (ht : t ∈ ownTmps ops.toList y.o) : y.own.testBit t = true := by
  rw [(hp.ok y hy).own]
  exact testBit_bitsOf.2 ht
theorem PlOk.dst (hp : PlOk P ops K n pl) {y : PO} (hy : y ∈ pl) : ∀ t, y.o.dst = some t → t < n := okOper_dst (hp.oper _ (hp.mem hy))
theorem PlOk.inj (hp : PlOk P ops K n pl) {x y : PO} (hx : x ∈ pl) (hy : y ∈ pl) (he : x.i = y.i) : x = y := by
  rcases hp.later.pair hx hy with h | h | h
  · exact h
  · exact absurd he h.2
  · exact absurd he.symm h.2
end

section
variable (P : Program) (ops : Array Oper) (base : Nat)

/-- what an operation that is seen ahead will come to -/
def PendVal (T : Tr V) (s : DS) (y : PO) (v : V) : Prop :=
  ((∀ p ∈ s.aside, p.1 ≠ y.i) ∧
    ((wanted ops.toList T y.o = some false ∧ v = undef') ∨
     (wanted ops.toList T y.o = some true ∧ y.c = .q ∧ ∃ h h', opV P T h y.o.op = .val v h') ∨
     (wanted ops.toList T y.o = some true ∧ y.c = .l ∧ (∃ h', opV P T s.h y.o.op = .val v h') ∧ (y, v) ∈ s.lds))) ∨
  (wanted ops.toList T y.o = some true ∧ y.c = .a ∧ ∃ tr h', tr.Ok hdepth ∧ opV P T ⟨tr, base + y.i⟩ y.o.op = .val v h' ∧ (y.i, h'.get (base + y.i)) ∈ s.aside)

structure Inv (ih : Ev) (K n : Nat) (ds : List D) (L : List (Ex × St)) (pl : List PO) (h0 : H) (μ0 : Mu) (w0 : World) (lm : Nat) (l pd : List PO) (s : DS) (a : Act) (w : World) (μ : Mu) : Prop where
  lIn : ∀ y ∈ l, y ∈ pl
  pIn : ∀ y ∈ pd, y ∈ pl
  lNot : ∀ y ∈ l, lm.testBit y.i = false
  pNot : ∀ y ∈ pd, lm.testBit y.i = false
  all : ∀ y ∈ pl, lm.testBit y.i = true ∨ y ∈ pd ∨ y ∈ l
  later : Later (fun x y => okBefore x y = true ∧ x.i ≠ y.i) l
  ord : ∀ j ∈ pd, ∀ y ∈ l, okBefore j y = true ∧ j.i ≠ y.i
  hi : Incl (evDr P ih ops.toList base ds l s) L
  sT : s.T.Ok (tdepth n)
  n256 : n ≤ 256
  hT : ∃ T', TRel μ T' n a.tmps ∧ ∀ t, t < n → (∀ y ∈ pd, y.o.dst ≠ some t) → T'.get .any (tpath t) = s.T.get .any (tpath t)
  hD : All2 (DRel μ) ds a.defers
  sH : s.h.t.Ok hdepth
  hH : HRel μ (absorb base (some lm) s.aside s.h) w
  hF : Fr h0 μ0 w0 (absorb base (some lm) s.aside s.h) μ w
  h0n : h0.n ≤ base
  pend : ∀ y ∈ pd, ∃ v, PendVal P ops base s.T s y v ∧ ∀ t, y.o.dst = some t → s.T.get .any (tpath t) = v
  aNodup : (s.aside.map (·.1)).Nodup
  aIn : ∀ p ∈ s.aside, p.1 < K ∧ (lm.testBit p.1 = true ∨ ∃ y ∈ pd, y.i = p.1)
  aGone : ∀ p ∈ s.aside, s.h.get (base + p.1) = .gone ∧ p.2 ≠ .gone
  aFresh : ∀ x, x < K → lm.testBit x = false → μ (base + x) = none
  aN : base + K ≤ s.h.n
end

section
variable {P : Program} {ops : Array Oper} {base : Nat} {ih : Ev} {K n : Nat} {ds : List D} {L : List (Ex × St)} {pl : List PO} {h0 : H} {μ0 : Mu} {w0 : World} {lm : Nat} {l r pd : List PO} {s : DS} {a : Act} {w : World} {μ : Mu}

theorem PendVal.move {T T2 : Tr V} {s2 : DS} {y : PO} {v : V} (hv : PendVal P ops base T s y v) (ha : Agree T T2 (ownTmps ops.toList y.o))
    (hl : y.c = .l → (∃ h', opV P T s.h y.o.op = .val v h') → (y, v) ∈ s.lds → (∃ h', opV P T s2.h y.o.op = .val v h') ∧ (y, v) ∈ s2.lds)
    (hs1 : (∀ p ∈ s.aside, p.1 ≠ y.i) → ∀ p ∈ s2.aside, p.1 ≠ y.i) (hs2 : ∀ o, (y.i, o) ∈ s.aside → (y.i, o) ∈ s2.aside) : PendVal P ops base T2 s2 y v := by
  have e1 := wanted_congr ha
  have e2 : ∀ h, opV P T h y.o.op = opV P T2 h y.o.op := fun h => opV_own ha
  rcases hv with ⟨g1, g2 | ⟨g2, g3, g4⟩ | ⟨g2, g3, g4, g5⟩⟩ | ⟨g2, g3, tr, h', g4, g5, g6⟩
  · exact .inl ⟨hs1 g1, .inl ⟨by rw [← e1]; exact g2.1, g2.2⟩⟩
  · obtain ⟨h, h', g5⟩ := g4
    exact .inl ⟨hs1 g1, .inr (.inl ⟨by rw [← e1]; exact g2, g3, h, h', by rw [← e2]; exact g5⟩)⟩
  · obtain ⟨⟨h', k1⟩, k2⟩ := hl g3 g4 g5
    exact .inl ⟨hs1 g1, .inr (.inr ⟨by rw [← e1]; exact g2, g3, ⟨h', by rw [← e2]; exact k1⟩, k2⟩)⟩
  · exact .inr ⟨by rw [← e1]; exact g2, g3, tr, h', g4, by rw [← e2]; exact g5, hs2 _ g6⟩

theorem Inv.leMost (hI : Inv P ops base ih K n ds L pl h0 μ0 w0 lm l pd s a w μ) {x : Nat} (hx : x < K) : base + x < most := by
  have h1 := hI.hH.le
  rw [(absorb_ok hI.sH).2] at h1
  have := hI.aN
  omega
theorem Inv.aLt (hI : Inv P ops base ih K n ds L pl h0 μ0 w0 lm l pd s a w μ) : ∀ p ∈ s.aside, base + p.1 < most := fun p hp => hI.leMost (hI.aIn p hp).1

theorem Inv.free (hI : Inv P ops base ih K n ds L pl h0 μ0 w0 lm l pd s a w μ) {x : Nat} (hx : x < K) (hl : lm.testBit x = false) : s.h.get (base + x) = .gone := by
  refine Classical.byContradiction fun hne => ?_
  have hlt := hI.leMost hx
  have e : (absorb base (some lm) s.aside s.h).get (base + x) = s.h.get (base + x) := absorb_not hI.sH hI.aLt hlt fun p _ hs he => by
    have : p.1 = x := by omega
    have hs' : lm.testBit p.1 = true := hs
    rw [this, hl] at hs'
    cases hs'
  obtain ⟨m, h1, _⟩ := hI.hH.obj (base + x) hlt (by rw [e]; exact hne)
  rw [hI.aFresh x hx hl] at h1
  cases h1

/-- an operation that does not act on memory is seen ahead -/
theorem Inv.adv1 (hp : PlOk P ops K n pl) {y : PO} (hI : Inv P ops base ih K n ds L pl h0 μ0 w0 lm (y :: r) pd s a w μ) {v : V} {as' : List (Nat × O)} {lds' : List (PO × V)}
    (has : as' = s.aside ∨ ∃ o, as' = (y.i, o) :: s.aside ∧ o ≠ .gone ∧ y.c = .a) (hlds : ∀ p ∈ s.lds, p ∈ lds') (hv : PendVal P ops base s.T ⟨s.T, s.h, as', lds'⟩ y v)
    (hi : Incl (evDr P ih ops.toList base ds r ⟨put s.T y.o.dst v, s.h, as', lds'⟩) L) :
    Inv P ops base ih K n ds L pl h0 μ0 w0 lm r (y :: pd) ⟨put s.T y.o.dst v, s.h, as', lds'⟩ a w μ := by
  have hy := hI.lIn y (by simp)
  have hyn := hI.lNot y (by simp)
  have hasub : ∀ p ∈ s.aside, p ∈ as' := by
    rcases has with rfl | ⟨o, rfl, _⟩
    · exact fun _ h => h
    · exact fun _ h => List.mem_cons_of_mem _ h
  have hain : ∀ p ∈ as', p ∈ s.aside ∨ p.1 = y.i := by
    rcases has with rfl | ⟨o, rfl, _⟩
    · exact fun _ h => .inl h
    · intro p h
      rcases List.mem_cons.1 h with rfl | h
      · exact .inr rfl
      · exact .inl h
  have hab : absorb base (some lm) as' s.h = absorb base (some lm) s.aside s.h := by
    rcases has with rfl | ⟨o, rfl, _⟩
    · rfl
    · rw [absorb_cons, if_neg]
      show ¬ lm.testBit y.i = true
      rw [hyn]; simp
  have hnotin : ∀ p ∈ s.aside, p.1 ≠ y.i := by
    intro p hp' he
    rcases (hI.aIn p hp').2 with h1 | ⟨z, h1, h2⟩
    · rw [he, hyn] at h1; cases h1
    · exact (hI.ord z h1 y (by simp)).2 (h2.trans he)
  refine ⟨fun z hz => hI.lIn z (List.mem_cons_of_mem _ hz), ?_, fun z hz => hI.lNot z (List.mem_cons_of_mem _ hz), ?_, ?_, hI.later.2, ?_, hi, put_ok hI.sT _ _, hI.n256, ?_, hI.hD, hI.sH, ?_, ?_, hI.h0n, ?_, ?_, ?_, ?_, hI.aFresh, hI.aN⟩
  · intro z hz
    rcases List.mem_cons.1 hz with rfl | hz
    · exact hy
    · exact hI.pIn z hz
  · intro z hz
    rcases List.mem_cons.1 hz with rfl | hz
    · exact hyn
    · exact hI.pNot z hz
  · intro z hz
    rcases hI.all z hz with h1 | h1 | h1
    · exact .inl h1
    · exact .inr (.inl (List.mem_cons_of_mem _ h1))
    · rcases List.mem_cons.1 h1 with rfl | h1
      · exact .inr (.inl (by simp))
      · exact .inr (.inr h1)
  · intro z hz u hu
    rcases List.mem_cons.1 hz with rfl | hz
    · exact hI.later.1 u hu
    · exact hI.ord z hz u (List.mem_cons_of_mem _ hu)
  · obtain ⟨T', h1, h2⟩ := hI.hT
    refine ⟨T', h1, fun t ht hno => ?_⟩
    rw [get_put_ne hI.sT hI.n256 (hp.dst hy) ht v (hno y (by simp))]
    exact h2 t ht fun z hz => hno z (List.mem_cons_of_mem _ hz)
  · show HRel μ (absorb base (some lm) as' s.h) w
    rw [hab]; exact hI.hH
  · show Fr h0 μ0 w0 (absorb base (some lm) as' s.h) μ w
    rw [hab]; exact hI.hF
  · intro z hz
    rcases List.mem_cons.1 hz with rfl | hz
    · refine ⟨v, hv.move (fun t ht => ?_) (fun _ h1 h2 => ⟨h1, h2⟩) (fun h => h) (fun _ h => h), fun t ht => ?_⟩
      · have h1 : z.o.dst ≠ some t := fun e => by
          have := hp.self z hy t e
          rw [hp.own hy ht] at this
          cases this
        exact (get_put_ne hI.sT hI.n256 (hp.dst hy) (own_lt hp.oper (hp.mem hy) t ht) v h1).symm
      · show (put s.T z.o.dst v).get .any (tpath t) = v
        rw [ht]
        exact get_put_self hI.sT hI.n256 (hp.dst hy t ht) v
    · obtain ⟨vz, k1, k2⟩ := hI.pend z hz
      have hzy := hI.ord z hz y (by simp)
      have hzi := hI.pIn z hz
      have hb := okBefore_spec hzy.1
      refine ⟨vz, k1.move (fun t ht => ?_) (fun _ h1 h2 => ⟨h1, hlds _ h2⟩) (fun h p hp' => ?_) (fun o ho => hasub _ ho), fun t ht => ?_⟩
      · have h1 : y.o.dst ≠ some t := fun e => by
          have := (hb.1 t e).1
          rw [hp.own hzi ht] at this
          cases this
        exact (get_put_ne hI.sT hI.n256 (hp.dst hy) (own_lt hp.oper (hp.mem hzi) t ht) v h1).symm
      · rcases hain p hp' with h1 | h1
        · exact h p h1
        · rw [h1]; exact fun e => hzy.2 e.symm
      · show (put s.T y.o.dst v).get .any (tpath t) = vz
        rw [get_put_ne hI.sT hI.n256 (hp.dst hy) (hp.dst hzi t ht) v fun e => (hb.1 t e).2 ht]
        exact k2 t ht
  · rcases has with rfl | ⟨o, rfl, _⟩
    · exact hI.aNodup
    · rw [List.map_cons, List.nodup_cons]
      refine ⟨fun hm => ?_, hI.aNodup⟩
      obtain ⟨p, hp1, hp2⟩ := List.mem_map.1 hm
      exact hnotin p hp1 hp2
  · intro p hp'
    rcases has with rfl | ⟨o, rfl, _, hc⟩
    · obtain ⟨h1, h2⟩ := hI.aIn p hp'
      exact ⟨h1, h2.imp (fun h => h) fun ⟨z, hz, he⟩ => ⟨z, List.mem_cons_of_mem _ hz, he⟩⟩
    · rcases List.mem_cons.1 hp' with rfl | hp'
      · exact ⟨hp.aK y hy hc, .inr ⟨y, by simp, rfl⟩⟩
      · obtain ⟨h1, h2⟩ := hI.aIn p hp'
        exact ⟨h1, h2.imp (fun h => h) fun ⟨z, hz, he⟩ => ⟨z, List.mem_cons_of_mem _ hz, he⟩⟩
  · intro p hp'
    rcases has with rfl | ⟨o, rfl, ho, hc⟩
    · exact hI.aGone p hp'
    · rcases List.mem_cons.1 hp' with rfl | hp'
      · exact ⟨hI.free (hp.aK y hy hc) hyn, ho⟩
      · exact hI.aGone p hp'

theorem isW_false {c : Cls} (h : isW c = false) : c = .q ∨ c = .l ∨ c = .a := by cases c <;> first | (cases h; done) | simp
theorem isW_true {c : Cls} (h : isW c = true) : c = .w := by cases c <;> first | (cases h; done) | rfl
theorem isGone_false {o : O} (h : isGone o = false) : o ≠ .gone := by rintro rfl; cases h

/-- up to the next that acts on memory -/
theorem Inv.adv (hp : PlOk P ops K n pl) : ∀ (l : List PO) {pd : List PO} {s : DS}, Inv P ops base ih K n ds L pl h0 μ0 w0 lm l pd s a w μ →
    ∃ l' pd' s', Inv P ops base ih K n ds L pl h0 μ0 w0 lm l' pd' s' a w μ ∧ (l' = [] ∨ ∃ y r, l' = y :: r ∧ y.c = .w) := by
  intro l
  induction l with
  | nil => intro pd s hI; exact ⟨[], pd, s, hI, .inl rfl⟩
  | cons y r il =>
    intro pd s hI
    cases hw : isW y.c with
    | true => exact ⟨y :: r, pd, s, hI, .inr ⟨y, r, rfl, isW_true hw⟩⟩
    | false =>
    have hy := hI.lIn y (by simp)
    have hyn := hI.lNot y (by simp)
    have hok := hp.ok y hy
    have hnotin : ∀ p ∈ s.aside, p.1 ≠ y.i := by
      intro p hp' he
      rcases (hI.aIn p hp').2 with h1 | ⟨z, h1, h2⟩
      · rw [he, hyn] at h1; cases h1
      · exact (hI.ord z h1 y (by simp)).2 (h2.trans he)
    have hi : Incl (Bool.casesOn y.q.mv (Option.casesOn (wanted ops.toList s.T y.o) (.bad "wanted") (fun b => Bool.casesOn b (evDr P ih ops.toList base ds r (s.put y undef')) (drGo P ih base y (evDr P ih ops.toList base ds r) s)))
      (evDr P ih ops.toList base ds r ⟨s.T.set (ev s.T y.q.x) y.q.dp, s.h, s.aside, s.lds⟩)) L := hI.hi
    cases hm : y.q.mv with
    | true =>
      rw [hm] at hi
      have hm' := hm
      rw [hok.q] at hm'
      obtain ⟨x, d, h1, h2, h3, h4, h5⟩ := qo_mv hm'
      have hi2 : Incl (evDr P ih ops.toList base ds r ⟨s.T.set (ev s.T y.q.x) y.q.dp, s.h, s.aside, s.lds⟩) L := hi
      rw [hok.q, h4, h5] at hi2
      have hc : y.c = .q := by rw [hok.c]; rcases h1 with h1 | h1 <;> rw [h1] <;> rfl
      refine il (hI.adv1 hp (v := ev s.T x) (as' := s.aside) (lds' := s.lds) (.inl rfl) (fun _ h => h) ?_ ?_)
      · refine .inl ⟨hnotin, .inr (.inl ⟨?_, hc, s.h, s.h, ?_⟩)⟩
        · unfold wanted; rw [h3]
        · rcases h1 with h1 | h1 <;> rw [h1] <;> rfl
      · rw [h2]; exact hi2
    | false =>
      rw [hm] at hi
      have hi2 : Incl (Option.casesOn (wanted ops.toList s.T y.o) (.bad "wanted") (fun b => Bool.casesOn b (evDr P ih ops.toList base ds r (s.put y undef')) (drGo P ih base y (evDr P ih ops.toList base ds r) s))) L := hi
      cases hwa : wanted ops.toList s.T y.o with
      | none => rw [hwa] at hi2; exact hi2.bad.elim
      | some b =>
      rw [hwa] at hi2
      cases b with
      | false => exact il (hI.adv1 hp (v := undef') (as' := s.aside) (lds' := s.lds) (.inl rfl) (fun _ h => h) (.inl ⟨hnotin, .inl ⟨hwa, rfl⟩⟩) hi2)
      | true =>
      have hi3 : Incl (drGo P ih base y (evDr P ih ops.toList base ds r) s) L := hi2
      unfold drGo at hi3
      rcases isW_false hw with hc | hc | hc
      · rw [hc] at hi3
        have hi4 : Incl (drQ y (evDr P ih ops.toList base ds r) s (opV P s.T s.h y.o.op)) L := hi3
        cases hv : opV P s.T s.h y.o.op with
        | bad => rw [hv] at hi4; exact hi4.bad.elim
        | fork q => rw [hv] at hi4; exact hi4.bad.elim
        | call f q => rw [hv] at hi4; exact hi4.bad.elim
        | dfr f q => rw [hv] at hi4; exact hi4.bad.elim
        | val v h' =>
          rw [hv] at hi4
          exact il (hI.adv1 hp (v := v) (as' := s.aside) (lds' := s.lds) (.inl rfl) (fun _ h => h) (.inl ⟨hnotin, .inr (.inl ⟨hwa, hc, s.h, h', hv⟩)⟩) hi4)
      · rw [hc] at hi3
        have hi4 : Incl (drL y (evDr P ih ops.toList base ds r) s (opV P s.T s.h y.o.op)) L := hi3
        cases hv : opV P s.T s.h y.o.op with
        | bad => rw [hv] at hi4; exact hi4.bad.elim
        | fork q => rw [hv] at hi4; exact hi4.bad.elim
        | call f q => rw [hv] at hi4; exact hi4.bad.elim
        | dfr f q => rw [hv] at hi4; exact hi4.bad.elim
        | val v h' =>
          rw [hv] at hi4
          exact il (hI.adv1 hp (v := v) (as' := s.aside) (lds' := (y, v) :: s.lds) (.inl rfl) (fun _ h => List.mem_cons_of_mem _ h) (.inl ⟨hnotin, .inr (.inr ⟨hwa, hc, ⟨h', hv⟩, by simp⟩)⟩) hi4)
      · rw [hc] at hi3
        have hi4 : Incl (drA base y (evDr P ih ops.toList base ds r) s (opV P s.T ⟨s.h.t, base + y.i⟩ y.o.op)) L := hi3
        cases hv : opV P s.T ⟨s.h.t, base + y.i⟩ y.o.op with
        | bad => rw [hv] at hi4; exact hi4.bad.elim
        | fork q => rw [hv] at hi4; exact hi4.bad.elim
        | call f q => rw [hv] at hi4; exact hi4.bad.elim
        | dfr f q => rw [hv] at hi4; exact hi4.bad.elim
        | val v h' =>
          rw [hv] at hi4
          have hi5 : Incl (Bool.casesOn (isGone (h'.get (base + y.i))) (evDr P ih ops.toList base ds r ⟨put s.T y.o.dst v, s.h, (y.i, h'.get (base + y.i)) :: s.aside, s.lds⟩) (.bad "a")) L := hi4
          cases hg : isGone (h'.get (base + y.i)) with
          | true => rw [hg] at hi5; exact hi5.bad.elim
          | false =>
            rw [hg] at hi5
            exact il (hI.adv1 hp (v := v) (as' := (y.i, h'.get (base + y.i)) :: s.aside) (lds' := s.lds) (.inr ⟨_, rfl, isGone_false hg, hc⟩) (fun _ h => h) (.inr ⟨hwa, hc, s.h.t, h', hI.sH, hv, by simp⟩) hi5)

end

end Go.Sx
