/-
  SOUNDNESS OF THE ABSTRACT INTERPRETER, twenty-third part: calls.
-/
import Derived.Test.YtechbpephhdmpaaGreatDoorB22
namespace Go.Sx

/-- the part of memory that such a function needs -/
noncomputable def tabH (tv t : TypeId) (pre : List S) : H := ((⟨Tr.full .gone hdepth, 2⟩ : H).set 0 (.row tv [.ptr 1 0] false)).set 1 (.row t pre false)
def Numbers (l : List S) : Prop := ∀ x ∈ l, ∃ k n, x = .int k n
def TabOk (P : Program) (f : FuncId) (tv t : TypeId) (pre post : List S) : Prop :=
  Numbers pre ∧ Numbers post ∧ ∃ l : List (V × H), (∀ p ∈ l, p.1 = undef' ∧ p.2.get 0 = .row tv [.ptr 1 0] false ∧ p.2.get 1 = .row t post false) ∧
    ∀ (argv : Array Value) (μ : Mu) (w : World), All2 (VRel μ) [one (.ptr 0 0)] argv.toList → HRel μ (tabH tv t pre) w → ∀ R, CallPost (tabH tv t pre) μ w l R → ∀ k, CallsIn Fence.wide k P f argv w (retPost R)

/-- new blocks at most -/
def Grew (w w' : World) : Prop := w.heap.size ≤ w'.heap.size ∧ (∀ b, b < w.heap.size → w'.heap[b]? = w.heap[b]?) ∧ w'.os = w.os ∧ w'.tape = w.tape ∧ w'.output = w.output

/-- what the table of functions that are not walked says is so -/
def ExtOk (P : Program) (ext : FuncId → Option X) : Prop := ∀ f x, ext f = some x → match x with
  | .known a r => hasBody P f = true ∧ ∀ w k, CallsIn Fence.wide k P f #[strV a] w (retPost fun v w' => v = strV r ∧ Grew w w')
  | .yes => hasBody P f = true ∧ ∀ w k, CallsIn Fence.wide k P f #[] w (retPost fun v w' => v = .bool true ∧ Grew w w')
  | .tab tv t pre post => hasBody P f = true ∧ TabOk P f tv t pre post
  | x => ∃ (fn : Func) (e : Array Value → Sem Value), P.funcs[f]? = some fn ∧ fn.body = none ∧ Extern.findNext fn = none ∧ Extern.find fn = some e ∧ XSem x e

section
variable {P : Program} {w : World} {μ : Mu} {h h' : H} {v : V} {n : Nat} {ih : Ev} {ext : FuncId → Option X} {loc : FuncId → Bool}

theorem run_callFunc_body (hname : NameOk P) {g : FuncId} (hg : hasBody P g = true) (args : Array Value) : (callFunc g args).run P w = .ok (.enter g args) w := by
  have := invoke_body (w := w) hname hg #[] args
  simpa [invoke] using this

/-- more blocks, and the old ones as they were -/
theorem HRel.grow {w' : World} (hr : HRel μ h w) (hs : w.heap.size ≤ w'.heap.size) (hk : ∀ b, b < w.heap.size → w'.heap[b]? = w.heap[b]?) (e1 : w'.os = w.os) (e2 : w'.tape = w.tape) (e3 : w'.output = w.output) :
    HRel μ h w' ∧ Fr h μ w h μ w' := by
  refine ⟨⟨hr.ok, hr.le, hr.dom, fun i hi hl => ?_, hr.inj⟩, ⟨Mu.le_refl _, Nat.le_refl _, fun _ h1 h2 => absurd h1 h2, hs, fun b hb _ => hk b hb, fun i m hi hl hm => .inr ⟨i, m, hi, hl, hm, rfl⟩, e1, e2, e3⟩⟩
  obtain ⟨m, h1, h2⟩ := hr.obj i hi hl
  exact ⟨m, h1, h2.mono (Mu.le_refl _) (hk _ (h2.lt hl))⟩

theorem strV_same {a s : List Nat} (h : eqL Nat.beq a s = true) : strV a = strV s := by rw [eqLN_true h]

theorem tabH_ok (tv t : TypeId) (pre : List S) : (tabH tv t pre).t.Ok hdepth ∧ ∀ i, i < most → (tabH tv t pre).get i = if i = 0 then .row tv [.ptr 1 0] false else if i = 1 then .row t pre false else .gone := by
  have hf : (⟨Tr.full .gone hdepth, 2⟩ : H).t.Ok hdepth := (Tr.full_ok O.gone hdepth : (Tr.full O.gone hdepth).Ok hdepth)
  have h0 : ((⟨Tr.full .gone hdepth, 2⟩ : H).set 0 (.row tv [.ptr 1 0] false)).t.Ok hdepth := (Tr.set_ok hf _ _ : ((⟨Tr.full .gone hdepth, 2⟩ : H).t.set (.row tv [.ptr 1 0] false) (hpath 0)).Ok hdepth)
  refine ⟨(Tr.set_ok h0 _ _ : (((⟨Tr.full .gone hdepth, 2⟩ : H).set 0 (.row tv [.ptr 1 0] false)).t.set (.row t pre false) (hpath 1)).Ok hdepth), fun i hi => ?_⟩
  have e3 : (⟨Tr.full .gone hdepth, 2⟩ : H).get i = .gone := Tr.get_full O.gone O.gone hdepth hdepth i (Nat.le_refl _)
  unfold tabH
  rw [H.get_set h0 (by decide : 1 < most) hi, H.get_set hf (by decide : 0 < most) hi, e3]
  by_cases h1 : i = 0
  · subst h1; rfl
  · by_cases h2 : i = 1
    · subst h2; rfl
    · rw [if_neg (fun e => h2 e.symm), if_neg (fun e => h1 e.symm), if_neg h1, if_neg h2]

theorem Numbers.cells {l : List S} (hn : Numbers l) {μ μ' : Mu} {c : Array Value} (h : CellsRel μ l c) : CellsRel μ' l c := by
  intro k x hk
  obtain ⟨v, h1, h2⟩ := h k x hk
  obtain ⟨kk, n, rfl⟩ := hn x (List.mem_of_getElem? hk)
  exact ⟨v, h1, h2⟩

theorem tab_ok {f : FuncId} {tv t : TypeId} {pre post : List S} (hx : TabOk P f tv t pre post) (hr : HRel μ h w) {i j : Nat} {xv : Value} (hxv : VRel μ (one (.ptr i 0)) xv) (hgi : h.get i = .row tv [.ptr j 0] false) (hgj : h.get j = .row t pre false) (hne : i ≠ j)
    {R : Value → World → Prop} (hp : ∀ rv w', VRel μ undef' rv → HRel μ (h.set j (.row t post false)) w' → Fr h μ w (h.set j (.row t post false)) μ w' → R rv w') (k : Nat) : CallsIn Fence.wide k P f #[xv] w (retPost R) := by
  obtain ⟨hn1, hn2, l, hl, hc⟩ := hx
  obtain ⟨mi, hmi, rfl⟩ := ptr_rel hxv
  have hli : h.get i ≠ .gone := by rw [hgi]; simp
  have hlj : h.get j ≠ .gone := by rw [hgj]; simp
  have hi : i < most := hr.lt_most hmi
  obtain ⟨c, fr, a1, a2, a3, a4, a5⟩ := hr.row hmi hgi
  obtain ⟨vj, b1, b2⟩ := a2 0 (.ptr j 0) rfl
  obtain ⟨mj, hmj, rfl⟩ := b2
  have hj : j < most := hr.lt_most hmj
  obtain ⟨cj, frj, c1, c2, c3, c4, c5⟩ := hr.row hmj hgj
  have hbne : mi.b ≠ mj.b := fun e => hne (hr.inj i j mi mj hi hj hli hlj hmi hmj e)
  let μs : Mu := fun x => if x = 0 then some mi else if x = 1 then some mj else none
  obtain ⟨t1, t2⟩ := tabH_ok tv t pre
  have g0 : (tabH tv t pre).get 0 = .row tv [.ptr 1 0] false := t2 0 (by decide)
  have g1 : (tabH tv t pre).get 1 = .row t pre false := t2 1 (by decide)
  have live : ∀ x, x < most → (tabH tv t pre).get x ≠ .gone → x = 0 ∨ x = 1 := by
    intro x hx hl
    rw [t2 x hx] at hl
    by_cases e0 : x = 0
    · exact .inl e0
    · by_cases e1 : x = 1
      · exact .inr e1
      · rw [if_neg e0, if_neg e1] at hl; exact absurd rfl hl
  have hs : HRel μs (tabH tv t pre) w := by
    refine ⟨t1, (by decide : 2 ≤ most), fun x m hm => ?_, fun x hx hl => ?_, fun x y mx my hx hy hlx hly hmx hmy hb => ?_⟩
    · show x < 2
      refine Classical.byContradiction fun hge => ?_
      have hm' : (if x = 0 then some mi else if x = 1 then some mj else none) = some m := hm
      rw [if_neg (by omega), if_neg (by omega)] at hm'
      cases hm'
    · rcases live x hx hl with rfl | rfl
      · rw [g0]
        refine ⟨mi, rfl, c, fr, a1, fun k x hk => ?_, a3, a4, a5⟩
        cases k with
        | zero =>
          have : x = .ptr 1 0 := by simpa using hk.symm
          subst this
          exact ⟨_, b1, mj, rfl, rfl⟩
        | succ k => simp at hk
      · rw [g1]
        exact ⟨mj, rfl, cj, frj, c1, hn1.cells c2, c3, c4, c5⟩
    · rcases live x hx hlx with rfl | rfl <;> rcases live y hy hly with rfl | rfl
      · rfl
      · have e1 : mi = mx := Option.some.inj hmx
        have e2 : mj = my := Option.some.inj hmy
        exact absurd (by rw [e1, e2]; exact hb) hbne
      · have e1 : mj = mx := Option.some.inj hmx
        have e2 : mi = my := Option.some.inj hmy
        exact absurd (by rw [e1, e2]; exact hb.symm) hbne
      · rfl
  refine hc #[ptrV mi 0] μs w ⟨⟨mi, rfl, rfl⟩, trivial⟩ hs R (fun v h' hm rv w' μ' k1 k2 k3 => ?_) k
  obtain ⟨e1, e2, e3⟩ := hl _ hm
  have e1' : v = undef' := e1
  subst e1'
  have m0 : μ' 0 = some mi := k3.le 0 mi rfl
  have m1 : μ' 1 = some mj := k3.le 1 mj rfl
  obtain ⟨d, frd, p1, p2, p3, p4, p5⟩ := k2.row m0 e2
  obtain ⟨dj, frdj, q1, q2, q3, q4, q5⟩ := k2.row m1 e3
  have keep : ∀ b, b < w.heap.size → mi.b ≠ b → mj.b ≠ b → w'.heap[b]? = w.heap[b]? := by
    intro b hb n1 n2
    refine k3.keep b hb fun x m hx hl hm => ?_
    rcases live x hx hl with rfl | rfl
    · have : mi = m := Option.some.inj hm
      exact this ▸ n1
    · have : mj = m := Option.some.inj hm
      exact this ▸ n2
  have hget : ∀ x, x < most → (h.set j (.row t post false)).get x = if j = x then .row t post false else h.get x := fun x hx => H.get_set hr.ok hj hx _
  have hlive : ∀ x, x < most → (h.set j (.row t post false)).get x ≠ .gone → h.get x ≠ .gone := by
    intro x hx hl
    rw [hget x hx] at hl
    by_cases e : j = x
    · rw [← e]; exact hlj
    · rw [if_neg e] at hl; exact hl
  refine hp rv w' ?_ ⟨Tr.set_ok hr.ok _ _, hr.le, hr.dom, fun x hx hl => ?_, fun x y mx my hx hy hlx hly hmx hmy hb => hr.inj x y mx my hx hy (hlive x hx hlx) (hlive y hy hly) hmx hmy hb⟩
    ⟨Mu.le_refl _, Nat.le_refl _, fun _ h1 h2 => absurd h1 h2, k3.size, fun b hb hno => keep b hb (hno i mi hi hli hmi) (hno j mj hj hlj hmj), fun x m hx hl hm => .inr ⟨x, m, hx, hlive x hx hl, hm, rfl⟩, k3.os, k3.tape, k3.output⟩
  · obtain ⟨vs, rfl, h2⟩ := k1
    rw [Array.toList_eq_nil_iff.1 h2.nil_left]
    exact VRel.undef
  · rw [hget x hx] at hl ⊢
    by_cases e : j = x
    · subst e
      rw [if_pos rfl]
      exact ⟨mj, hmj, dj, frdj, q1, hn2.cells q2, q3, q4, q5⟩
    · rw [if_neg e] at hl ⊢
      by_cases ei : x = i
      · subst ei
        rw [hgi]
        refine ⟨mi, hmi, d, frd, p1, fun k y hk => ?_, p3, p4, p5⟩
        cases k with
        | zero =>
          have : y = .ptr j 0 := by simpa using hk.symm
          subst this
          obtain ⟨v, v1, v2⟩ := p2 0 (.ptr 1 0) rfl
          obtain ⟨m, v3, v4⟩ := v2
          rw [m1] at v3
          cases v3
          exact ⟨v, v1, mj, hmj, v4⟩
        | succ k => simp at hk
      · obtain ⟨m, n1, n2⟩ := hr.obj x hx hl
        exact ⟨m, n1, n2.mono (Mu.le_refl _) (keep _ (n2.lt hl) (fun e' => ei (hr.inj i x mi m hi hx hli hl hmi n1 e').symm) (fun e' => e (hr.inj j x mj m hj hx hlj hl hmj n1 e')))⟩

theorem tabAt_ne {tv t : TypeId} {pre post : List S} {i : Nat} {r : RC} (e : tabAt tv t pre post i h = r) (hr : ∀ m, r ≠ .bad m) :
    ∃ j, h.get i = .row tv [.ptr j 0] false ∧ h.get j = .row t pre false ∧ i ≠ j ∧ r = .one undef' (h.set j (.row t post false)) := by
  unfold tabAt at e
  obtain ⟨e1, cs, fz, hg, e2⟩ := H.get_ne (d := RC.bad "tab") e (hr _)
  cases hb : andb (Nat.beq e1 tv) (notb fz) with
  | false => rw [hb] at e2; exact absurd e2.symm (hr _)
  | true =>
  rw [hb] at e2
  rw [andb_eq, notb_eq, Bool.and_eq_true, Nat.beq_eq, Bool.not_eq_true'] at hb
  obtain ⟨rfl, rfl⟩ := hb
  cases cs with
  | nil => exact absurd e2.symm (hr _)
  | cons x rest =>
  cases rest with
  | cons y rest => exact absurd e2.symm (hr _)
  | nil =>
  have e3 : (sPtr x (.bad "tab") (.bad "tab") fun j p => Nat.casesOn p (tabIn t pre post i j h) (fun _ => .bad "tab") : RC) = r := e2
  cases x with
  | ptr j p =>
    have e4 : (Nat.casesOn p (tabIn t pre post i j h) (fun _ => .bad "tab") : RC) = r := e3
    cases p with
    | succ p => exact absurd e4.symm (hr _)
    | zero =>
    have e5 : tabIn t pre post i j h = r := e4
    unfold tabIn at e5
    obtain ⟨f1, cs2, fz2, hg2, e6⟩ := H.get_ne (d := RC.bad "tab") e5 (hr _)
    cases hb : andb (andb (Nat.beq f1 t) (notb fz2)) (andb (notb (Nat.beq i j)) (eqL sameS cs2 pre)) with
    | false => rw [hb] at e6; exact absurd e6.symm (hr _)
    | true =>
    rw [hb] at e6
    rw [andb_eq, andb_eq, andb_eq, notb_eq, notb_eq, Bool.and_eq_true, Bool.and_eq_true, Bool.and_eq_true, Nat.beq_eq, Bool.not_eq_true', Bool.not_eq_true'] at hb
    obtain ⟨⟨rfl, rfl⟩, h1, h2⟩ := hb
    have h3 := eqL_true (fun _ _ => sameS_true) h2
    subst h3
    refine ⟨j, hg, hg2, fun e => ?_, e6.symm⟩
    rw [e] at h1
    simp at h1
  | _ => exact absurd e3.symm (hr _)

theorem fn_ok (hname : NameOk P) (hext : ExtOk P ext) (hc : CodeOk P ih) {f : FuncId} {args : List V} {argv : Array Value} {l : List (V × H)} (hl : (evFn P ext ih f args h).list = some l) (ha : All2 (VRel μ) args argv.toList)
    (hr : HRel μ h w) {R : Value → World → Prop} (hp : CallPost h μ w l R) : Upon P R ((callFunc f argv).run P w) := by
  unfold evFn at hl
  cases he : ext f with
  | none =>
    rw [he] at hl
    have hl2 : (Option.casesOn (funcOf P f) (.bad "no function") (fun p => evBody P ih p.1 p.2 args h) : RC).list = some l := hl
    cases hf : funcOf P f with
    | none => rw [hf] at hl2; cases hl2
    | some p =>
      rw [hf] at hl2
      obtain ⟨h1, h2⟩ := funcOf_some hf
      rw [run_callFunc_body hname (funcOf_body hf)]
      intro k
      exact CallsIn.mono (body_ok hname hc h1 h2 hl2 ha hr hp k) fun e w' he => by
        cases e with
        | returned v => exact he
        | panicked c => exact he
        | outgrown => exact he
  | some x =>
    rw [he] at hl
    have hl0 : (onlyOne (evX x args h)).list = some l := hl
    have hl2 : (evX x args h).list = some l ∧ ∀ q, evX x args h ≠ .many q := by
      cases hq : evX x args h with
      | bad m => rw [hq] at hl0; cases hl0
      | one v h' => rw [hq] at hl0; exact ⟨hl0, by simp⟩
      | many q => rw [hq] at hl0; cases hl0
    obtain ⟨hl2, nomany⟩ := hl2
    have hx := hext f x he
    have notbad : ∀ m, evX x args h ≠ .bad m := fun m hb => by rw [hb] at hl2; cases hl2
    by_cases hk : ∃ a r, x = .known a r
    · obtain ⟨a, r, rfl⟩ := hk
      obtain ⟨hb, hcalls⟩ := hx
      obtain ⟨X, rfl, h1⟩ := rc1_ne (f := fun s => vStr s (.bad "known") fun s => Bool.casesOn (motive := fun _ => RC) (eqL Nat.beq a s) (.bad "known") (RC.one (Sx.one (.str r)) h)) (r := evX (.known a r) args h) rfl notbad
      obtain ⟨xv, rfl, r1⟩ := args1 ha rfl
      obtain ⟨s, rfl, h2⟩ := vStr_ne (d := RC.bad "known") h1 (notbad _)
      cases hq : eqL Nat.beq a s with
      | false => rw [hq] at h2; exact absurd h2.symm (notbad _)
      | true =>
        rw [hq] at h2
        rw [← h2] at hl2
        have hl3 : some [(Sx.one (.str r), h)] = some l := hl2
        cases hl3
        rw [run_callFunc_body hname hb]
        intro k
        have hxv : xv = strV a := by
          have := one_rel r1
          rw [strV_same hq]
          exact this
        rw [hxv]
        refine CallsIn.mono (hcalls w k) fun e w' he => ?_
        cases e with
        | panicked c => exact he.elim
        | outgrown => exact he.elim
        | returned v =>
          obtain ⟨rfl, g1, g2, g3, g4, g5⟩ := he
          obtain ⟨q1, q2⟩ := hr.grow g1 g2 g3 g4 g5
          exact hp (Sx.one (.str r)) h (by simp) (strV r) w' μ (show VRel μ (Sx.one (.str r)) (strV r) from rfl) q1 q2
    · by_cases hk2 : x = .yes
      · subst hk2
        obtain ⟨hb, hcalls⟩ := hx
        cases args with
        | cons a args => cases hl2
        | nil =>
        have hav : argv = #[] := Array.toList_eq_nil_iff.1 ha.nil_left
        subst hav
        have hl3 : some [(bool true, h)] = some l := hl2
        cases hl3
        rw [run_callFunc_body hname hb]
        intro k
        refine CallsIn.mono (hcalls w k) fun e w' he => ?_
        cases e with
        | panicked c => exact he.elim
        | outgrown => exact he.elim
        | returned v =>
          obtain ⟨rfl, g1, g2, g3, g4, g5⟩ := he
          obtain ⟨q1, q2⟩ := hr.grow g1 g2 g3 g4 g5
          exact hp (bool true) h (by simp) (.bool true) w' μ (VRel.bool true) q1 q2
      by_cases hk3 : ∃ tv t pre post, x = .tab tv t pre post
      · obtain ⟨tv, t, pre, post, rfl⟩ := hk3
        obtain ⟨hb, htab⟩ := hx
        obtain ⟨X, rfl, h1⟩ := rc1_ne (f := fun a => vPtr a (.bad "tab") fun i o => Nat.casesOn (motive := fun _ => RC) o (tabAt tv t pre post i h) (fun _ => .bad "tab")) (r := evX (.tab tv t pre post) args h) rfl notbad
        obtain ⟨xv, rfl, r1⟩ := args1 ha rfl
        obtain ⟨i, o, rfl, h2⟩ := vPtr_ne (d := RC.bad "tab") h1 (notbad _)
        cases o with
        | succ o => exact absurd h2.symm (notbad _)
        | zero =>
        obtain ⟨j, g1, g2, g3, g4⟩ := tabAt_ne (show tabAt tv t pre post i h = _ from h2) notbad
        rw [g4] at hl2
        have hl3 : some [(undef', h.set j (.row t post false))] = some l := hl2
        cases hl3
        rw [run_callFunc_body hname hb]
        intro k
        refine CallsIn.mono (tab_ok htab hr r1 g1 g2 g3 (R := R) (fun rv w' q1 q2 q3 => hp undef' _ (by simp) rv w' μ q1 q2 q3) k) fun e w' he => ?_
        cases e with
        | panicked c => exact he.elim
        | outgrown => exact he.elim
        | returned v => exact he
      have hx2 : ∃ (fn : Func) (e : Array Value → Sem Value), P.funcs[f]? = some fn ∧ fn.body = none ∧ Extern.findNext fn = none ∧ Extern.find fn = some e ∧ XSem x e := by
        cases x <;> first
          | exact hx
          | exact absurd ⟨_, _, rfl⟩ hk
          | exact absurd rfl hk2
          | exact absurd ⟨_, _, _, _, rfl⟩ hk3
      obtain ⟨fn, e, h1, h2, h3, h4, h5⟩ := hx2
      cases hv : evX x args h with
      | bad m => exact absurd hv (notbad m)
      | many q => exact absurd hv (nomany q)
      | one v h' =>
        rw [hv] at hl2
        have hl3 : some [(v, h')] = some l := hl2
        cases hl3
        obtain ⟨rv, w', μ', d1, d2, d3, d4⟩ := evX_ok (P := P) (w := w) h5 hr ha hv
        have hne : (fn.name == "runtime.NumGoroutine") = false := by simpa using hname f fn h1
        have hrun : (callFunc f argv).run P w = .ok (.value rv) w' := by
          simp only [callFunc, Sem.run_bind, run_program, Result.andThen_ok, h1, hne, Bool.false_eq_true, if_false, h2, Option.isNone_none, if_true, run_mark, h3, h4, d1, Sem.run_pure]
        rw [hrun]
        exact hp v h' (by simp) rv w' μ' d2 d3 d4

end

end Go.Sx
