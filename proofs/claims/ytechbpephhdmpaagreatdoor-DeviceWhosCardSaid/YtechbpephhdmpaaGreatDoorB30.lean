/-
  SOUNDNESS OF THE ABSTRACT INTERPRETER, thirtieth part: regions that draw: any order; the whole.
-/
import Derived.Test.YtechbpephhdmpaaGreatDoorB29
namespace Go.Sx

theorem filter_lt {l : List PO} {p p' : PO → Bool} (hle : ∀ y ∈ l, p' y = true → p y = true) {x : PO} (hx : x ∈ l) (h1 : p x = true) (h2 : p' x = false) : (l.filter p').length < (l.filter p).length := by
  induction l with
  | nil => cases hx
  | cons z l ih =>
    have hle' : (l.filter p').length ≤ (l.filter p).length := by
      clear ih hx
      induction l with
      | nil => simp
      | cons u l il =>
        have hu := hle u (by simp)
        have il' := il fun y hy => hle y (by
          rcases List.mem_cons.1 hy with rfl | hy
          · simp
          · simp [hy])
        rw [List.filter_cons, List.filter_cons]
        cases hpu : p' u with
        | true => rw [if_pos rfl, if_pos (hu hpu)]; simp only [List.length_cons]; omega
        | false =>
          rw [if_neg (by simp)]
          split
          · simp only [List.length_cons]; omega
          · exact il'
    rcases List.mem_cons.1 hx with rfl | hx'
    · rw [List.filter_cons, List.filter_cons, if_pos h1, if_neg (by rw [h2]; simp)]
      simp only [List.length_cons]
      omega
    · have ih' := ih (fun y hy => hle y (List.mem_cons_of_mem _ hy)) hx'
      have hz := hle z (by simp)
      rw [List.filter_cons, List.filter_cons]
      cases hpz : p' z with
      | true => rw [if_pos rfl, if_pos (hz hpz)]; simp only [List.length_cons]; omega
      | false =>
        rw [if_neg (by simp)]
        split
        · simp only [List.length_cons]; omega
        · exact ih'

section
variable {P : Program} {F : Fence} {cx : Bool} {k : Nat} {ops : Array Oper} {base : Nat} {ih : Ev} {K n : Nat} {ds : List D} {L : List (Ex × St)} {pl : List PO} {h0 : H} {μ0 : Mu} {w0 : World}
  {lm : Nat} {l pd : List PO} {s : DS} {a : Act} {w : World} {μ : Mu} {Q : Exit → Act → World → Prop}

theorem PlOk.mask (hp : PlOk P ops K n pl) {y : PO} (hy : y ∈ pl) : y.m = maskOf ((masks ops.toList).take y.i) y.o := by
  have h1 := (hp.ok y hy).m
  have h2 := (masks_spec ops.toList).2 y.i y.o (hp.ok y hy).o
  rw [h1] at h2
  exact Option.some.inj h2

/-- all done -/
theorem Inv.done (hsat : Sat n h0 μ0 w0 L Q) (hI : Inv P ops base ih K n ds L pl h0 μ0 w0 lm l pd s a w μ) (hall : ∀ y ∈ pl, lm.testBit y.i = true) : Q .normal a w := by
  have hl : l = [] := by
    cases l with
    | nil => rfl
    | cons y r =>
      have h1 := hI.lNot y (by simp)
      rw [hall y (hI.lIn y (by simp))] at h1
      cases h1
  have hpd : ∀ z ∈ pd, False := fun z hz => by
    have h1 := hI.pNot z hz
    rw [hall z (hI.pIn z hz)] at h1
    cases h1
  subst hl
  have hi : Incl (.one .normal ⟨s.T, ds, absorb base none s.aside s.h⟩) L := hI.hi
  have e : absorb base none s.aside s.h = absorb base (some lm) s.aside s.h := absorb_congr fun p hp' => by
    show true = lm.testBit p.1
    rcases (hI.aIn p hp').2 with h1 | ⟨z, hz, _⟩
    · exact h1.symm
    · exact (hpd z hz).elim
  rw [e] at hi
  obtain ⟨T', h1, h2⟩ := hI.hT
  refine hsat .normal _ hi.one a w μ ⟨⟨hI.sT, hI.n256, h1.size, fun t ht => ?_⟩, hI.hD, hI.hH⟩ hI.hF
  show VRel μ (s.T.get .any (tpath t)) _
  rw [← h2 t ht fun y hy => (hpd y hy).elim]
  exact h1.rel t ht

theorem draw_run (hF : FOk F cx) (hih : CallOk P ih) (hp : PlOk P ops K n pl) (hsat : Sat n h0 μ0 w0 L Q) : ∀ (fuel : Nat) (listed : Array Bool) (lm : Nat) (l pd : List PO) (s : DS) (a : Act) (w : World) (μ : Mu),
    Inv P ops base ih K n ds L pl h0 μ0 w0 lm l pd s a w μ → listed.size = ops.size → (∀ i, i < ops.size → listed.getD i true = lm.testBit i) → (∀ x, lm.testBit x = true → x < ops.size) →
    (∀ y ∈ pl, lm.testBit y.i = true → ∀ x, y.m.testBit x = true → lm.testBit x = true) → (pl.filter fun y => !lm.testBit y.i).length ≤ fuel → wpAnyIn F k P .any ops Q fuel listed a w := by
  intro fuel
  induction fuel with
  | zero =>
    intro listed lm l pd s a w μ hI hsz hl hlt hdn hfu
    have hall : ∀ y ∈ pl, lm.testBit y.i = true := by
      intro y hy
      cases hb : lm.testBit y.i with
      | true => rfl
      | false =>
        have : y ∈ pl.filter fun y => !lm.testBit y.i := by simp [hy, hb]
        have := List.length_pos_of_mem this
        omega
    refine ⟨?_, hI.done hsat hall⟩
    cases hr : Region.ready .any ops listed with
    | nil => rfl
    | cons j rest =>
      exfalso
      have hj : j ∈ Region.ready .any ops listed := by rw [hr]; simp
      obtain ⟨h1, o, h2, _⟩ := mem_ready.1 hj
      have hjs := (Array.getElem?_eq_some_iff.1 h2).1
      obtain ⟨y, hy, rfl⟩ := hp.cov j hjs
      rw [hl _ hjs, hall y hy] at h1
      cases h1
  | succ fuel il =>
    intro listed lm l pd s a w μ hI hsz hl hlt hdn hfu
    refine ⟨fun hr => ?_, fun i hi => ?_⟩
    · refine hI.done hsat ?_
      rcases hp.seq.first (lm := lm) (by simp) with h1 | ⟨y, hy, h1, h2⟩
      · exact h1
      · exfalso
        have : y.i ∈ Region.ready .any ops listed := mem_ready.2 ⟨by rw [hl _ (hp.lt hy)]; exact h1, y.o, hp.at hy, fun e he hb => by
          have h3 : y.m.testBit e.on = true := by rw [hp.mask hy]; exact testBit_maskOf.2 ⟨e, he, hb, .inl rfl⟩
          have h4 := h2 _ h3
          have h5 := hlt _ h4
          have h6 := hl _ h5
          rw [h4] at h6
          simpa [hsz, h5] using h6⟩
        rw [hr] at this
        cases this
    · obtain ⟨h1, o, h2, h3⟩ := mem_ready.1 hi
      have his := (Array.getElem?_eq_some_iff.1 h2).1
      obtain ⟨y, hy, rfl⟩ := hp.cov i his
      have ho : y.o = o := by
        have := hp.at hy
        rw [this] at h2
        exact Option.some.inj h2
      subst ho
      have hyn : lm.testBit y.i = false := by rw [← hl _ his]; exact h1
      have hon : ∀ e ∈ y.o.after, Region.binds .any e = true → lm.testBit e.on = true := by
        intro e he hb
        have h4 := h3 e he hb
        have h5 : e.on < ops.size := by
          refine Classical.byContradiction fun hn => ?_
          rw [Array.getD_eq_getD_getElem?, Array.getElem?_eq_none (by omega)] at h4
          cases h4
        rw [← hl _ h5]
        simpa [hsz, h5] using h4
      have hm : ∀ x, y.m.testBit x = true → lm.testBit x = true := by
        intro x hx
        rw [hp.mask hy] at hx
        obtain ⟨e, he, hb, h4⟩ := testBit_maskOf.1 hx
        have h5 := hon e he hb
        rcases h4 with rfl | h4
        · exact h5
        · obtain ⟨z, hz, hze⟩ := hp.cov e.on (hlt _ h5)
          refine hdn z hz (by rw [hze]; exact h5) x ?_
          have h6 := (hp.ok z hz).m
          rw [hze] at h6
          rw [List.getD_eq_getElem?_getD, List.getElem?_take] at h4
          split at h4
          · rw [h6] at h4; exact h4
          · simp at h4
      have next : ∀ l' pd' s' a' w' μ', Inv P ops base ih K n ds L pl h0 μ0 w0 (lm ||| 2 ^ y.i) l' pd' s' a' w' μ' → wpAnyIn F k P .any ops Q fuel (listed.setIfInBounds y.i true) a' w' := by
        intro l' pd' s' a' w' μ' hI'
        refine il _ _ _ _ _ _ _ _ hI' (by simpa using hsz) (fun j hj => ?_) (fun x hx => ?_) (fun z hz hb x hx => ?_) ?_
        · by_cases e : y.i = j
          · subst e
            rw [show (lm ||| 2 ^ y.i).testBit y.i = true from testBit_or_pow.2 (.inr rfl)]
            simp [hsz, hj]
          · rw [getD_set_ne true e, hl j hj]
            cases hb : lm.testBit j with
            | true => exact (testBit_or_pow.2 (.inl hb)).symm
            | false => exact (testBit_or_pow_false.2 ⟨hb, e⟩).symm
        · rcases testBit_or_pow.1 hx with h4 | rfl
          · exact hlt x h4
          · exact his
        · rcases testBit_or_pow.1 hb with h4 | h4
          · exact testBit_or_pow.2 (.inl (hdn z hz h4 x hx))
          · rw [hp.inj hz hy h4.symm] at hx
            exact testBit_or_pow.2 (.inl (hm x hx))
        · have := filter_lt (l := pl) (p := fun y => !lm.testBit y.i) (p' := fun z => !(lm ||| 2 ^ y.i).testBit z.i) (fun z _ hz => by
            cases hb : lm.testBit z.i with
            | false => rfl
            | true =>
              have h4 : (!(lm ||| 2 ^ y.i).testBit z.i) = true := hz
              rw [testBit_or_pow.2 (.inl hb)] at h4
              cases h4) hy (by simp [hyn]) (by simp [testBit_or_pow.2 (.inr rfl)])
          omega
      obtain ⟨l', pd', s', hI', hhead⟩ := hI.adv hp l
      have hstep : Taken F k P ops Q y.o (wpAnyIn F k P .any ops Q fuel (listed.setIfInBounds y.i true)) a w := by
        rcases hI'.all y hy with h4 | h4 | h4
        · rw [hyn] at h4; cases h4
        · exact hI'.stepP hF hp h4 hm next
        · rcases hhead with rfl | ⟨z, r, rfl, hz⟩
          · cases h4
          · rcases List.mem_cons.1 h4 with rfl | h4
            · exact hI'.stepW hF hih hp hz hm next
            · exfalso
              have h5 := (okBefore_spec (hI'.later.1 y h4).1).2
              rcases h5 with h5 | ⟨h5, _⟩
              · have := hm _ h5
                rw [hI'.lNot z (by simp)] at this
                cases this
              · rw [hz] at h5; cases h5
      unfold wpOpIn
      rw [hp.at hy]
      exact hstep

theorem Inv.start {h : H} (hp : PlOk P ops K n pl) (hs : SOk μ n ⟨s.T, ds, h⟩ a w) (hK : s.h.n = h.n + K) (ht : s.h.t = h.t) (hle : h.n + K ≤ most) (has : s.aside = [])
    (hi : Incl (evDr P ih ops.toList h.n ds pl s) L) : Inv P ops h.n ih K n ds L pl h μ w 0 pl [] s a { w with drawn := w.drawn + 1 } μ := by
  have hw : HRel μ s.h { w with drawn := w.drawn + 1 } := by
    have h1 := (hs.hH.wide (n := h.n + K) (by show h.n ≤ _; omega) hle).heap (w' := { w with drawn := w.drawn + 1 }) rfl
    have e : s.h = ⟨h.t, h.n + K⟩ := by
      rw [← ht, ← hK]
    rw [e]
    exact h1
  have hab : absorb h.n (some 0) s.aside s.h = s.h := by rw [has]; rfl
  have hget : ∀ i, s.h.get i = h.get i := fun i => by unfold H.get; rw [ht]
  refine ⟨fun _ h => h, fun _ h => (by cases h), fun _ _ => (by simp), fun _ h => (by cases h), fun y hy => .inr (.inr hy), hp.later, fun _ h => (by cases h), hi, hs.hT.ok, hs.hT.le, ⟨s.T, hs.hT, fun _ _ _ => rfl⟩, hs.hD, (by rw [ht]; exact hs.hH.ok),
    (by rw [hab]; exact hw), ?_, Nat.le_refl _, fun _ h => (by cases h), (by rw [has]; simp), (by rw [has]; simp), (by rw [has]; simp), fun x hx _ => ?_, (by rw [hK]; exact Nat.le_refl _)⟩
  · rw [hab]
    exact ⟨Mu.le_refl _, by rw [hK]; omega, fun _ h1 h2 => absurd h1 h2, Nat.le_refl _, fun _ _ _ => rfl, fun i m hi' hl hm => .inr ⟨i, m, hi', by rw [← hget]; exact hl, hm, rfl⟩, rfl, rfl, rfl⟩
  · cases hm : μ (h.n + x) with
    | none => rfl
    | some m =>
      have := hs.hH.dom _ _ hm
      have : h.n + x < h.n := this
      omega

theorem draw_ok (hmix : P.follows .mixedOrders = true) (hih : CallOk P ih) : DrawOk P ih := by
  intro ops id st n L hok hi F cx hF a w μ hs k Q hsat
  unfold evDraw evPlan at hi
  have hplan : ∀ y ∈ sortW 100000 (plan P ops.toList) 0 [], PlanOk P ops.toList y := fun y hy => by
    rcases sortW_mem _ _ _ _ _ hy with h1 | h1
    · exact plan_ok h1
    · cases h1
  generalize sortW 100000 (plan P ops.toList) 0 [] = pl at hi hplan
  cases hd : okDraw (lenl ops.toList) pl with
  | false => rw [hd] at hi; exact hi.bad.elim
  | true =>
  rw [hd] at hi
  have hi2 : Incl (Bool.casesOn (Nat.ble (st.h.n + lenl ops.toList) most) (.bad "most") (evDr P ih ops.toList st.h.n st.ds pl ⟨st.T, startH (hasA P ops.toList) st.h.n (lenl ops.toList) st.h, [], []⟩)) L := hi
  cases hb : Nat.ble (st.h.n + lenl ops.toList) most with
  | false => rw [hb] at hi2; exact hi2.bad.elim
  | true =>
  rw [hb] at hi2
  have hi3 : Incl (evDr P ih ops.toList st.h.n st.ds pl ⟨st.T, startH (hasA P ops.toList) st.h.n (lenl ops.toList) st.h, [], []⟩) L := hi2
  rw [lenl_eq] at hd hb hi3
  have hb' := Nat.le_of_ble_eq_true hb
  rw [Array.length_toList] at hd hb' hi3
  obtain ⟨g1, g2, g3, g4, g5⟩ := okDraw_spec hd
  refine wpIn_region_any hmix ?_
  have fin : ∀ K (hh : H), hh.n = st.h.n + K → hh.t = st.h.t → K ≤ ops.size → (∀ y ∈ pl, y.c = .a → y.i < K) → Incl (evDr P ih ops.toList st.h.n st.ds pl ⟨st.T, hh, [], []⟩) L →
      wpAnyIn F k P .any ops Q ops.size (Array.replicate ops.size false) a { w with drawn := w.drawn + 1 } := by
    intro K hh e1 e2 e3 e4 e5
    have hp : PlOk P ops K n pl := ⟨hplan, g4, g5, g2, g1, g3, hok, e4⟩
    have hI := Inv.start (s := ⟨st.T, hh, [], []⟩) (ds := st.ds) (h := st.h) hp hs e1 e2 (by omega) rfl e5
    refine draw_run hF hih hp hsat _ _ _ _ _ _ _ _ _ hI (by simp) (fun i hi' => by simp [hi']) (fun x hx => by simp at hx) (fun y _ hx => by simp at hx) ?_
    exact Nat.le_trans (List.length_filter_le _ _) g1
  cases ha : hasA P ops.toList with
  | false =>
    rw [ha] at hi3
    refine fin 0 st.h rfl rfl (Nat.zero_le _) (fun y hy hc => ?_) hi3
    exfalso
    have hm := List.mem_of_getElem? (hplan y hy).o
    unfold hasA at ha
    rw [List.any_eq_false] at ha
    have := ha y.o hm
    rw [← (hplan y hy).c, hc] at this
    exact this rfl
  | true =>
    rw [ha] at hi3
    refine fin ops.size ⟨st.h.t, st.h.n + ops.size⟩ rfl rfl (Nat.le_refl _) (fun y hy _ => ?_) hi3
    have := (List.getElem?_eq_some_iff.1 (hplan y hy).o).1
    simpa using this

end

/-- the interpreter is sound -/
theorem run_ok {P : Program} (hmix : P.follows .mixedOrders = true) (hname : NameOk P) {ext : FuncId → Option X} (hext : ExtOk P ext) (loc : FuncId → Bool) (N : Nat) : CodeOk P (run P ext loc N) ∧ CallOk P (run P ext loc N) :=
  run_sound hname hext (fun _ _ hih => draw_ok hmix hih) N

end Go.Sx
