/-
  SOUNDNESS OF THE ABSTRACT INTERPRETER, second part: memory, and what a step may do to it.
-/
import Derived.Test.YtechbpephhdmpaaGreatDoorB1
namespace Go.Sx

theorem most_eq : most = 4 ^ hdepth := by decide

/-! ### ids -/

theorem H.get_set {h : H} (hk : h.t.Ok hdepth) {i j : Nat} (hi : i < most) (hj : j < most) (o : O) :
    (h.set i o).get j = if i = j then o else h.get j := by
  unfold H.get H.set hpath
  rw [Tr.get_set hk o .gone hdepth i j (Nat.le_refl _), ← most_eq, Nat.mod_eq_of_lt hi, Nat.mod_eq_of_lt hj]

/-- behind a new object -/
noncomputable def H.add (h : H) (o : O) : H := ⟨h.t.set o (hpath h.n), h.n + 1⟩
theorem H.get_add {h : H} (hk : h.t.Ok hdepth) {j : Nat} (hi : h.n < most) (hj : j < most) (o : O) : (h.add o).get j = if h.n = j then o else h.get j :=
  H.get_set hk hi hj o
theorem H.new_eq {α : Type} (h : H) (o : O) (d : α) (f : Nat → H → α) : h.new o d f = if h.n < most then f h.n (h.add o) else d := by
  unfold H.new
  rw [forceN_eq]
  by_cases hn : h.n < most
  · have e : Nat.blt h.n most = true := by rw [Nat.blt_eq]; exact hn
    rw [if_pos hn, e]; rfl
  · have e : Nat.blt h.n most = false := by
      cases hb : Nat.blt h.n most with
      | false => rfl
      | true => exact absurd (by rw [Nat.blt_eq] at hb; exact hb) hn
    rw [if_neg hn, e]

/-! ### what lies in memory -/

section
variable (μ : Mu)

def ERel (e : E) (e' : MapEntry) : Prop := URel μ e.k e'.key ∧ URel μ e.v e'.val ∧ e'.born = e.born

/-- a frame's temporaries -/
structure TRel (T : Tr V) (n : Nat) (tmps : Array Value) : Prop where
  ok : T.Ok (tdepth n)
  le : n ≤ 256
  size : n ≤ tmps.size
  rel : ∀ t, t < n → VRel μ (T.get .any (tpath t)) (tmps.getD t undef)

def CellsRel (cs : List S) (c : Array Value) : Prop := ∀ (k : Nat) (x : S), cs[k]? = some x → ∃ v, c[k]? = some v ∧ SRel μ x v

/-- no cell of a row is barred from writing -/
def Free (fr : Nat × Nat) (n : Nat) : Prop := ∀ k, k < n → ¬ (fr.1 ≤ k ∧ k < fr.2)

def ORel (m : BI) (w : World) : O → Prop
  | .gone => True
  | .row e cs fz => ∃ c fr, w.heap[m.b]? = some (.cells c e fr) ∧ CellsRel μ cs c ∧ cs.length ≤ m.n ∧ m.n ≤ c.size ∧ (fz = false → Free fr c.size)
  | .map es clock => ∃ es', w.heap[m.b]? = some (.map es' clock) ∧ All2 (ERel μ) es es'.toList
  | .miter mi since seen stepped => ∃ mm, μ mi = some mm ∧ w.heap[m.b]? = some (.mapIter (some mm.b) since seen.toArray stepped)
  | .siter s pos => w.heap[m.b]? = some (.stringIter ⟨(s.map UInt8.ofNat).toArray⟩ pos)
  | .loop busy T ps a b d => ∃ L md n, w.heap[m.b]? = some (.loop L) ∧ L.state = (if busy then .busy else .ready) ∧ L.pending = none ∧ L.params.toList = ps ∧ L.assign = a ∧ L.body = b ∧
      TRel μ T n L.tmps ∧ μ d = some md ∧ L.defers = md.b ∧ okCode n a = true ∧ okCode n b = true ∧ (∀ t ∈ ps, t < n)
  | .dfr => w.heap[m.b]? = some (.deferred (some []))

structure HRel (h : H) (w : World) : Prop where
  ok : h.t.Ok hdepth
  le : h.n ≤ most
  dom : ∀ i m, μ i = some m → i < h.n
  obj : ∀ i, i < most → h.get i ≠ .gone → ∃ m, μ i = some m ∧ ORel μ m w (h.get i)
  inj : ∀ i j mi mj, i < most → j < most → h.get i ≠ .gone → h.get j ≠ .gone → μ i = some mi → μ j = some mj → mi.b = mj.b → i = j
end

section
variable {μ μ' : Mu} {w w' : World} {h h' : H}

theorem ERel.mono (hm : Mu.le μ μ') {e : E} {e' : MapEntry} (hr : ERel μ e e') : ERel μ' e e' := ⟨hr.1.mono hm, hr.2.1.mono hm, hr.2.2⟩
theorem TRel.mono (hm : Mu.le μ μ') {T : Tr V} {n : Nat} {tmps : Array Value} (hr : TRel μ T n tmps) : TRel μ' T n tmps :=
  ⟨hr.ok, hr.le, hr.size, fun t ht => (hr.rel t ht).mono hm⟩
theorem CellsRel.mono (hm : Mu.le μ μ') {cs : List S} {c : Array Value} (hr : CellsRel μ cs c) : CellsRel μ' cs c :=
  fun k x hk => let ⟨v, h1, h2⟩ := hr k x hk; ⟨v, h1, h2.mono hm⟩
theorem ORel.mono (hm : Mu.le μ μ') {m : BI} (hb : w'.heap[m.b]? = w.heap[m.b]?) {o : O} (hr : ORel μ m w o) : ORel μ' m w' o := by
  cases o with
  | gone => trivial
  | row e cs fz => obtain ⟨c, fr, h1, h2, h3⟩ := hr; exact ⟨c, fr, hb.trans h1, h2.mono hm, h3⟩
  | map es clock => obtain ⟨es', h1, h2⟩ := hr; exact ⟨es', hb.trans h1, h2.mono fun _ _ => ERel.mono hm⟩
  | miter mi since seen stepped => obtain ⟨mm, h1, h2⟩ := hr; exact ⟨mm, hm _ _ h1, hb.trans h2⟩
  | siter s pos => exact Eq.trans hb hr
  | loop busy T ps a b d =>
    obtain ⟨L, md, n, h1, h2, h3, h4, h5, h6, h7, h8, h9⟩ := hr
    exact ⟨L, md, n, hb.trans h1, h2, h3, h4, h5, h6, h7.mono hm, hm _ _ h8, h9⟩
  | dfr => exact Eq.trans hb hr

theorem HRel.heap (hr : HRel μ h w) (e : w'.heap = w.heap) : HRel μ h w' :=
  ⟨hr.ok, hr.le, hr.dom, fun i hi hl => let ⟨m, h1, h2⟩ := hr.obj i hi hl; ⟨m, h1, h2.mono (Mu.le_refl _) (by rw [e])⟩, hr.inj⟩

/-- an object's block is there -/
theorem ORel.lt {m : BI} {o : O} (hr : ORel μ m w o) (hl : o ≠ .gone) : m.b < w.heap.size := by
  have key : ∀ x, w.heap[m.b]? = some x → m.b < w.heap.size := fun x hx => (Array.getElem?_eq_some_iff.1 hx).1
  cases o with
  | gone => exact absurd rfl hl
  | row e cs fz => obtain ⟨c, fr, h1, _⟩ := hr; exact key _ h1
  | map es clock => obtain ⟨es', h1, _⟩ := hr; exact key _ h1
  | miter mi since seen stepped => obtain ⟨mm, _, h2⟩ := hr; exact key _ h2
  | siter s pos => exact key _ hr
  | loop busy T ps a b d => obtain ⟨L, md, n, h1, _⟩ := hr; exact key _ h1
  | dfr => exact key _ hr
end

/-! ### what a step may do -/

structure Fr (h : H) (μ : Mu) (w : World) (h' : H) (μ' : Mu) (w' : World) : Prop where
  le : Mu.le μ μ'
  n : h.n ≤ h'.n
  new : ∀ i, μ i = none → μ' i ≠ none → h.n ≤ i
  size : w.heap.size ≤ w'.heap.size
  keep : ∀ b, b < w.heap.size → (∀ i m, i < most → h.get i ≠ .gone → μ i = some m → m.b ≠ b) → w'.heap[b]? = w.heap[b]?
  own : ∀ i m, i < most → h'.get i ≠ .gone → μ' i = some m → w.heap.size ≤ m.b ∨ ∃ j mj, j < most ∧ h.get j ≠ .gone ∧ μ j = some mj ∧ mj.b = m.b
  os : w'.os = w.os
  tape : w'.tape = w.tape
  output : w'.output = w.output

section
variable {μ μ' μ'' : Mu} {w w' w'' : World} {h h' h'' : H}

theorem Fr.refl (h : H) (μ : Mu) (w : World) : Fr h μ w h μ w :=
  ⟨Mu.le_refl _, Nat.le_refl _, fun _ h1 h2 => absurd h1 h2, Nat.le_refl _, fun _ _ _ => rfl, fun i m hi hl hm => .inr ⟨i, m, hi, hl, hm, rfl⟩, rfl, rfl, rfl⟩

theorem Fr.trans (a : Fr h μ w h' μ' w') (b : Fr h' μ' w' h'' μ'' w'') : Fr h μ w h'' μ'' w'' := by
  refine ⟨Mu.le_trans a.le b.le, Nat.le_trans a.n b.n, ?_, Nat.le_trans a.size b.size, ?_, ?_, b.os.trans a.os, b.tape.trans a.tape, b.output.trans a.output⟩
  · intro i h1 h2
    by_cases hi : μ' i = none
    · exact Nat.le_trans a.n (b.new i hi h2)
    · exact a.new i h1 hi
  · intro x hx hno
    rw [b.keep x (Nat.lt_of_lt_of_le hx a.size) ?_, a.keep x hx hno]
    intro i m hi hl hm
    rcases a.own i m hi hl hm with h1 | ⟨j, mj, hj, hlj, hmj, e⟩
    · omega
    · exact e ▸ hno j mj hj hlj hmj
  · intro i m hi hl hm
    rcases b.own i m hi hl hm with h1 | ⟨j, mj, hj, hlj, hmj, e⟩
    · exact .inl (Nat.le_trans a.size h1)
    · rcases a.own j mj hj hlj hmj with h1 | h1
      · exact .inl (e ▸ h1)
      · exact .inr (e ▸ h1)

/-- a world that differs in its draws alone -/
theorem Fr.same (e : w'.heap = w.heap) (e1 : w'.os = w.os) (e2 : w'.tape = w.tape) (e3 : w'.output = w.output) : Fr h μ w h μ w' :=
  ⟨Mu.le_refl _, Nat.le_refl _, fun _ h1 h2 => absurd h1 h2, by rw [e]; exact Nat.le_refl _, fun _ _ _ => by rw [e], fun i m hi hl hm => .inr ⟨i, m, hi, hl, hm, rfl⟩, e1, e2, e3⟩

/-- one id more -/
def Mu.add (μ : Mu) (i : Nat) (m : BI) : Mu := fun j => if j = i then some m else μ j
theorem Mu.le_add (μ : Mu) {i : Nat} (m : BI) (hi : μ i = none) : Mu.le μ (μ.add i m) := fun j x hj => by
  unfold Mu.add
  split
  · rename_i e; subst e; rw [hi] at hj; cases hj
  · exact hj
@[simp] theorem Mu.add_self (μ : Mu) (i : Nat) (m : BI) : μ.add i m i = some m := by simp [Mu.add]
theorem Mu.add_ne (μ : Mu) {i j : Nat} (m : BI) (hj : j ≠ i) : μ.add i m j = μ j := by simp [Mu.add, hj]

theorem HRel.fresh (hr : HRel μ h w) : μ h.n = none := by
  cases e : μ h.n with
  | none => rfl
  | some m => exact absurd (hr.dom _ _ e) (Nat.lt_irrefl _)

/-- a new object in a new block; the others lie as they lay -/
theorem HRel.add (hr : HRel μ h w) (hn : h.n < most) {m : BI} {o : O} (hb : m.b = w.heap.size) (hs : w.heap.size ≤ w'.heap.size)
    (hk : ∀ b, b < w.heap.size → w'.heap[b]? = w.heap[b]?) (ho : ORel (μ.add h.n m) m w' o) (e1 : w'.os = w.os) (e2 : w'.tape = w.tape) (e3 : w'.output = w.output) :
    HRel (μ.add h.n m) (h.add o) w' ∧ Fr h μ w (h.add o) (μ.add h.n m) w' := by
  have hle := Mu.le_add μ m hr.fresh
  have hget : ∀ j, j < most → (h.add o).get j = if h.n = j then o else h.get j := fun j hj => H.get_add hr.ok hn hj o
  constructor
  · refine ⟨Tr.set_ok hr.ok _ _, hn, ?_, ?_, ?_⟩
    · intro i x hi
      by_cases e : i = h.n
      · rw [e]; exact Nat.lt_succ_self _
      · rw [Mu.add_ne _ _ e] at hi; exact Nat.lt_succ_of_lt (hr.dom _ _ hi)
    · intro i hi hl
      rw [hget i hi] at hl ⊢
      by_cases e : h.n = i
      · rw [if_pos e]; exact ⟨m, by rw [← e]; simp, ho⟩
      · rw [if_neg e] at hl ⊢
        obtain ⟨x, h1, h2⟩ := hr.obj i hi hl
        exact ⟨x, hle _ _ h1, h2.mono hle (hk _ (h2.lt hl))⟩
    · intro i j mi mj hi hj hli hlj hmi hmj hbb
      rw [hget i hi] at hli
      rw [hget j hj] at hlj
      by_cases ei : h.n = i <;> by_cases ej : h.n = j
      · omega
      · exfalso
        rw [if_neg ej] at hlj
        rw [← ei, Mu.add_self] at hmi; cases hmi
        rw [Mu.add_ne _ _ (fun e => ej e.symm)] at hmj
        obtain ⟨x, h1, h2⟩ := hr.obj j hj hlj
        rw [hmj] at h1; cases h1
        have := h2.lt hlj
        omega
      · exfalso
        rw [if_neg ei] at hli
        rw [← ej, Mu.add_self] at hmj; cases hmj
        rw [Mu.add_ne _ _ (fun e => ei e.symm)] at hmi
        obtain ⟨x, h1, h2⟩ := hr.obj i hi hli
        rw [hmi] at h1; cases h1
        have := h2.lt hli
        omega
      · rw [if_neg ei] at hli
        rw [if_neg ej] at hlj
        rw [Mu.add_ne _ _ (fun e => ei e.symm)] at hmi
        rw [Mu.add_ne _ _ (fun e => ej e.symm)] at hmj
        exact hr.inj i j mi mj hi hj hli hlj hmi hmj hbb
  · refine ⟨hle, Nat.le_succ _, ?_, hs, fun b hb' _ => hk b hb', ?_, e1, e2, e3⟩
    · intro i h1 h2
      by_cases e : i = h.n
      · omega
      · rw [Mu.add_ne _ _ e] at h2; exact absurd h1 h2
    · intro i x hi hl hx
      rw [hget i hi] at hl
      by_cases e : h.n = i
      · left; rw [← e, Mu.add_self] at hx; cases hx; omega
      · rw [if_neg e] at hl
        rw [Mu.add_ne _ _ (fun e' => e e'.symm)] at hx
        exact .inr ⟨i, x, hi, hl, hx, rfl⟩

theorem HRel.lt_most (hr : HRel μ h w) {i : Nat} {m : BI} (hm : μ i = some m) : i < most := Nat.lt_of_lt_of_le (hr.dom _ _ hm) hr.le

/-- an object takes another's place in its block; the others lie as they lay -/
theorem HRel.put (hr : HRel μ h w) {i : Nat} {m : BI} {o : O} (hm : μ i = some m) (hl : h.get i ≠ .gone) (hs : w'.heap.size = w.heap.size)
    (hk : ∀ b, b ≠ m.b → w'.heap[b]? = w.heap[b]?) (ho : ORel μ m w' o) (e1 : w'.os = w.os) (e2 : w'.tape = w.tape) (e3 : w'.output = w.output) :
    HRel μ (h.set i o) w' ∧ Fr h μ w (h.set i o) μ w' := by
  have hi := hr.lt_most hm
  have hget : ∀ j, j < most → (h.set i o).get j = if i = j then o else h.get j := fun j hj => H.get_set hr.ok hi hj o
  constructor
  · refine ⟨Tr.set_ok hr.ok _ _, hr.le, hr.dom, ?_, ?_⟩
    · intro j hj hlj
      rw [hget j hj] at hlj ⊢
      by_cases e : i = j
      · rw [if_pos e]; exact ⟨m, e ▸ hm, ho⟩
      · rw [if_neg e] at hlj ⊢
        obtain ⟨x, h1, h2⟩ := hr.obj j hj hlj
        refine ⟨x, h1, h2.mono (Mu.le_refl _) (hk _ ?_)⟩
        exact fun hb => e (hr.inj i j m x hi hj hl hlj hm h1 hb.symm)
    · intro j k mj mk hj hk' hlj hlk hmj hmk hb
      rw [hget j hj] at hlj
      rw [hget k hk'] at hlk
      have lj : h.get j ≠ .gone := by
        by_cases e : i = j
        · exact e ▸ hl
        · rw [if_neg e] at hlj; exact hlj
      have lk : h.get k ≠ .gone := by
        by_cases e : i = k
        · exact e ▸ hl
        · rw [if_neg e] at hlk; exact hlk
      exact hr.inj j k mj mk hj hk' lj lk hmj hmk hb
  · refine ⟨Mu.le_refl _, Nat.le_refl _, fun _ h1 h2 => absurd h1 h2, by omega, ?_, ?_, e1, e2, e3⟩
    · intro b _ hno
      exact hk b fun e => hno i m hi hl hm e.symm
    · intro j x hj hlj hx
      refine .inr ⟨j, x, hj, ?_, hx, rfl⟩
      rw [hget j hj] at hlj
      by_cases e : i = j
      · exact e ▸ hl
      · rw [if_neg e] at hlj; exact hlj

/-- an object is let go -/
theorem HRel.drop (hr : HRel μ h w) {i : Nat} (hi : i < most) : HRel μ (h.set i .gone) w ∧ Fr h μ w (h.set i .gone) μ w := by
  have hget : ∀ j, j < most → (h.set i .gone).get j = if i = j then .gone else h.get j := fun j hj => H.get_set hr.ok hi hj .gone
  have hlive : ∀ j, j < most → (h.set i .gone).get j ≠ .gone → i ≠ j ∧ h.get j ≠ .gone := by
    intro j hj hl
    rw [hget j hj] at hl
    by_cases e : i = j
    · rw [if_pos e] at hl; exact absurd rfl hl
    · rw [if_neg e] at hl; exact ⟨e, hl⟩
  constructor
  · refine ⟨Tr.set_ok hr.ok _ _, hr.le, hr.dom, ?_, ?_⟩
    · intro j hj hl
      obtain ⟨e, hl'⟩ := hlive j hj hl
      rw [hget j hj, if_neg e]
      exact hr.obj j hj hl'
    · exact fun j k mj mk hj hk hlj hlk => hr.inj j k mj mk hj hk (hlive j hj hlj).2 (hlive k hk hlk).2
  · exact ⟨Mu.le_refl _, Nat.le_refl _, fun _ h1 h2 => absurd h1 h2, Nat.le_refl _, fun _ _ _ => rfl, fun j x hj hlj hx => .inr ⟨j, x, hj, (hlive j hj hlj).2, hx, rfl⟩, rfl, rfl, rfl⟩
end

/-! ### temporaries -/

theorem tdepth_le (n : Nat) : tdepth n ≤ 4 := by
  unfold tdepth
  cases Nat.ble n 16 with
  | true => exact (by decide : (2 : Nat) ≤ 4)
  | false => cases Nat.ble n 64 with
    | true => exact (by decide : (3 : Nat) ≤ 4)
    | false => exact Nat.le_refl 4
theorem tdepth_lt {n t : Nat} (hn : n ≤ 256) (ht : t < n) : t < 4 ^ tdepth n := by
  unfold tdepth
  cases h1 : Nat.ble n 16 with
  | true => have := Nat.le_of_ble_eq_true h1; show t < 4 ^ 2; omega
  | false => cases h2 : Nat.ble n 64 with
    | true => have := Nat.le_of_ble_eq_true h2; show t < 4 ^ 3; omega
    | false => show t < 4 ^ 4; omega

section
variable {μ : Mu} {T : Tr V} {n : Nat} {tmps : Array Value}
theorem TRel.set (hr : TRel μ T n tmps) {d : Nat} (hd : d < n) {v : V} {x : Value} (hv : VRel μ v x) : TRel μ (T.set v (tpath d)) n (tmps.setIfInBounds d x) := by
  refine ⟨Tr.set_ok hr.ok _ _, hr.le, by simpa using hr.size, fun t ht => ?_⟩
  unfold tpath
  rw [Tr.get_set hr.ok v .any 4 d t (tdepth_le n), Nat.mod_eq_of_lt (tdepth_lt hr.le hd), Nat.mod_eq_of_lt (tdepth_lt hr.le ht)]
  have hds : d < tmps.size := Nat.lt_of_lt_of_le hd hr.size
  by_cases e : d = t
  · subst e
    rw [if_pos rfl]
    simpa [Array.getD_eq_getD_getElem?, hds] using hv
  · rw [if_neg e]
    have h0 := hr.rel t ht
    unfold tpath at h0
    simpa [Array.getD_eq_getD_getElem?, Array.getElem?_setIfInBounds_ne e] using h0
theorem TRel.put {a : Act} (hr : TRel μ T n a.tmps) {d : Option Tmp} (hd : ∀ t, d = some t → t < n) {v : V} {x : Value} (hv : VRel μ v x) : TRel μ (put T d v) n (a.put d x).tmps := by
  cases d with
  | none => exact hr
  | some t => exact TRel.set hr (hd t rfl) hv
end

end Go.Sx
