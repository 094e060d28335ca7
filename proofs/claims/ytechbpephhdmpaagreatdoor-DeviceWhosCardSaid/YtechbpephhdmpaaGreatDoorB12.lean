/-
  SOUNDNESS OF THE ABSTRACT INTERPRETER, twelfth part: append.
-/
import Derived.Test.YtechbpephhdmpaaGreatDoorB11
import Derived.Laws.Append
namespace Go.Sx

section
variable {P : Program} {w : World} {μ : Mu} {h h' : H}

/-! ### the model's append -/

structure AppArgs (P : Program) (w : World) (ts : Array TypeId) (t e : TypeId) (i : TypeInfo) (z : Value) (yv : Value) (n : Nat) (new : Array Value) : Prop where
  t0 : ts[0]? = some t
  t1 : ∀ u, ts[1]? = some u → ∃ d, P.underlying u = some d ∧ ∀ k, d ≠ .int k
  el : P.underlying t = some (.slice e)
  info : P.info? e = some i
  zero : i.zero = some z
  len : (Builtin.lenOf yv).run P w = .ok n w
  new : ∀ w1 : World, w1.heap = w.heap → (Builtin.firstCells i.size n yv).run P w1 = .ok new w1

theorem run_append_in {ts : Array TypeId} {t e ty : TypeId} {i : TypeInfo} {z yv : Value} {n sLen sCap : Nat} {new : Array Value} {a : Addr} {w' : World} (A : AppArgs P w ts t e i z yv n new)
    (hc : sLen + n ≤ sCap) (hst : (storeCells (a.add (sLen * i.size)) new.toList).run P w = .ok () w') :
    (Builtin.append_ ts ty #[.slice (some a) sLen sCap, yv]).run P w = .ok (.slice (some a) (sLen + n) sCap) w' := by
  have h0 : (#[.slice (some a) sLen sCap, yv] : Array Value)[0]? = some (.slice (some a) sLen sCap) := rfl
  have h1 : (#[.slice (some a) sLen sCap, yv] : Array Value)[1]? = some yv := rfl
  have hnew := A.new w rfl
  cases hu : ts[1]? with
  | none => simp only [Builtin.append_, A.t0, h0, h1, Sem.run_bind, run_underlying' A.el, Result.andThen_ok, sizeOf, run_typeInfo' A.info, Sem.run_pure, hu, Bool.false_eq_true, if_false, A.len, hc, if_true, Bool.not_false, hnew, hst]
  | some u =>
    obtain ⟨d, hd, hk⟩ := A.t1 u hu
    cases d <;> first
      | exact absurd rfl (hk _)
      | simp only [Builtin.append_, A.t0, h0, h1, Sem.run_bind, run_underlying' A.el, Result.andThen_ok, sizeOf, run_typeInfo' A.info, Sem.run_pure, hu, run_underlying' hd, Bool.false_eq_true, if_false, A.len, hc, if_true, Bool.not_false, hnew, hst]

theorem run_append_none {ts : Array TypeId} {t e ty : TypeId} {i : TypeInfo} {z yv : Value} {new : Array Value} (A : AppArgs P w ts t e i z yv 0 new) :
    (Builtin.append_ ts ty #[.slice none 0 0, yv]).run P w = .ok (.slice none 0 0) w := by
  have h0 : (#[.slice none 0 0, yv] : Array Value)[0]? = some (.slice none 0 0) := rfl
  have h1 : (#[.slice none 0 0, yv] : Array Value)[1]? = some yv := rfl
  have hnew := A.new w rfl
  cases hu : ts[1]? with
  | none => simp only [Builtin.append_, A.t0, h0, h1, Sem.run_bind, run_underlying' A.el, Result.andThen_ok, sizeOf, run_typeInfo' A.info, Sem.run_pure, hu, Bool.false_eq_true, if_false, A.len, Nat.le_refl, if_true, Bool.not_false, hnew, Nat.add_zero]
  | some u =>
    obtain ⟨d, hd, hk⟩ := A.t1 u hu
    cases d <;> first
      | exact absurd rfl (hk _)
      | simp only [Builtin.append_, A.t0, h0, h1, Sem.run_bind, run_underlying' A.el, Result.andThen_ok, sizeOf, run_typeInfo' A.info, Sem.run_pure, hu, run_underlying' hd, Bool.false_eq_true, if_false, A.len, Nat.le_refl, if_true, Bool.not_false, hnew, Nat.add_zero]

theorem run_append_new {ts : Array TypeId} {t e ty : TypeId} {i : TypeInfo} {z yv : Value} {n sLen sCap : Nat} {base : Option Addr} {old new : Array Value} (A : AppArgs P w ts t e i z yv n new)
    (hc : ¬ (sLen + n ≤ sCap)) (hm : small (sLen + n) i.bytes = true) (hold : ∀ w1 : World, w1.heap = w.heap → (Builtin.firstCells i.size sLen (.slice base sLen sCap)).run P w1 = .ok old w1) :
    ∃ cap, sLen + n ≤ cap ∧ (Builtin.append_ ts ty #[.slice base sLen sCap, yv]).run P w =
      .ok (.slice (some ⟨w.heap.size, 0, none⟩) (sLen + n) cap) { w.alloc (.cells (old ++ new ++ Builtin.zeroCells z.cells (cap - (sLen + n))) e) with drawn := w.drawn + 1 } := by
  have h0 : (#[.slice base sLen sCap, yv] : Array Value)[0]? = some (.slice base sLen sCap) := rfl
  have h1 : (#[.slice base sLen sCap, yv] : Array Value)[1]? = some yv := rfl
  have hnew := A.new w rfl
  have hm' := hm
  unfold small at hm'
  rw [andb_eq, Bool.and_eq_true, ble_iff, ble_iff] at hm'
  have hfit := growslice_fits (need := sLen + n) (old := sCap) (bytes := i.bytes) (by omega) hm'.2
  have h63 : ¬ (((sLen + n : Nat) : Int) > IntKind.i64.max) := by rw [IntKind.max_i64]; have := hm'.1; omega
  have h48 : ¬ (Builtin.nextslicecap (sLen + n) sCap * i.bytes > 2 ^ 48) := by omega
  refine ⟨Question.cut (.appendCap (sLen + n) sCap e) (w.tape w.drawn (.appendCap (sLen + n) sCap e)), by simp only [Question.cut]; omega, ?_⟩
  have hold' := hold { w with drawn := w.drawn + 1 } rfl
  have hnew' := A.new { w with drawn := w.drawn + 1 } rfl
  cases hu : ts[1]? with
  | none =>
    simp only [Builtin.append_, A.t0, h0, h1, Sem.run_bind, run_underlying' A.el, Result.andThen_ok, sizeOf, run_typeInfo' A.info, Sem.run_pure, hu, Bool.false_eq_true, if_false, A.len, hc, if_true, Bool.not_false, h63, false_and, h48,
      run_choose, Question.forced, run_askRoom, hold', hnew', run_zeroValue' A.info A.zero, Go.newRow, run_newObj_alloc]
    rfl
  | some u =>
    obtain ⟨d, hd, hk⟩ := A.t1 u hu
    cases d <;> first
      | exact absurd rfl (hk _)
      | (simp only [Builtin.append_, A.t0, h0, h1, Sem.run_bind, run_underlying' A.el, Result.andThen_ok, sizeOf, run_typeInfo' A.info, Sem.run_pure, hu, run_underlying' hd, Bool.false_eq_true, if_false, A.len, hc, if_true, Bool.not_false, h63, false_and, h48,
          run_choose, Question.forced, run_askRoom, hold', hnew', run_zeroValue' A.info A.zero, Go.newRow, run_newObj_alloc]
         rfl)

/-! ### cells read -/

theorem loadCells_ok (hr : HRel μ h w) {i o n : Nat} {m : BI} {e : TypeId} {cs x : List S} {fz : Bool} {a : Addr} (hm : μ i = some m) (hg : h.get i = .row e cs fz) (hs : sub? cs o n = some x)
    (ha : n = 0 ∨ a = ⟨m.b, o, none⟩) : ∃ vs : List Value, All2 (SRel μ) x vs ∧ vs.length = n ∧ ∀ w1 : World, w1.heap = w.heap → (loadCells a n).run P w1 = .ok vs.toArray w1 := by
  obtain ⟨c, fr, k1, k2, k3, k4, _⟩ := hr.row hm hg
  obtain ⟨vs, h1, h2, h3⟩ := k2.sub (by omega) hs
  refine ⟨vs, h2, h1, fun w1 hw => ?_⟩
  rcases ha with rfl | rfl
  · have : vs = [] := by simpa using h1
    rw [this]
    rfl
  · have k1' : w1.heap[m.b]? = some (.cells c e fr) := by rw [hw]; exact k1
    have := run_loadCells_list (P := P) w1 ⟨m.b, o, none⟩ vs (fun j v hj => by rw [Addr.add_lit, cell_row k1']; exact h3 j v hj)
    rwa [h1] at this

theorem bytesS_rel (s : List Nat) : All2 (SRel μ) (bytesS s) (((bytesOf s).data.map fun b => (.int .u8 b.toNat : Value)).toList) := by
  unfold bytesS
  rw [mapl_eq]
  have : ((bytesOf s).data.map fun b => (.int .u8 b.toNat : Value)).toList = s.map fun n => (.int .u8 ((UInt8.ofNat n).toNat : Int) : Value) := by simp [bytesOf]
  rw [this]
  induction s with
  | nil => trivial
  | cons n s ih =>
    refine ⟨?_, ih (by simp [bytesOf])⟩
    rw [byteS_eq]
    show Value.int .u8 _ = Value.int .u8 _
    simp

theorem firstC_ok (hr : HRel μ h w) {s n : Nat} {y : S} {yv : Value} {new : List S} (hn : lenOf y = some n) (he : firstC s n y h = some new) (hy : SRel μ y yv) :
    ∃ vs : List Value, All2 (SRel μ) new vs ∧ (∀ w1 : World, w1.heap = w.heap → (Builtin.firstCells s n yv).run P w1 = .ok vs.toArray w1) ∧ (Builtin.lenOf yv).run P w = .ok n w ∧ vs.length = n * s := by
  rcases lenOf_rel hn hy with ⟨b, rfl, rfl, rfl⟩ | ⟨rfl, rfl, rfl⟩ | ⟨i, o, c, a, cap, rfl, rfl⟩
  · have he' : gd (Nat.beq s 1) (some (bytesS (takel b.length b))) = some new := he
    obtain ⟨hs1, he2⟩ := gd_some he'
    rw [Nat.beq_eq] at hs1
    subst hs1
    cases he2
    rw [takel_eq, List.take_length]
    refine ⟨_, bytesS_rel b, fun w1 _ => ?_, by simp [Builtin.lenOf, bytesOf_size], by simp [bytesOf]⟩
    have hx : (bytesOf b).extract 0 b.length = bytesOf b := by
      rw [bytesOf, ByteArray.extract_mk, List.drop_zero, Nat.sub_zero, List.take_of_length_le (by simp)]
    simp only [Builtin.firstCells, hx, Array.toArray_toList]
    rfl
  · cases he
    exact ⟨[], trivial, fun w1 _ => by simp [Builtin.firstCells], by simp [Builtin.lenOf], by simp⟩
  · obtain ⟨ty, cs, fz, h1, h2⟩ := H.get_ne (d := none) he (by simp)
    obtain ⟨m, a', cap', hm, hv, hlc, ha, _⟩ := hy
    cases hv
    obtain ⟨vs, k1, k2, k3⟩ := loadCells_ok (P := P) (a := a) hr hm h1 h2 (by
      rcases ha with ha | ha
      · left; have : n = 0 := by omega
        rw [this]; exact Nat.zero_mul s
      · exact .inr ha)
    exact ⟨vs, k1, fun w1 hw => by simp only [Builtin.firstCells]; exact k3 w1 hw, by simp [Builtin.lenOf], k2⟩

/-! ### new memory, or the old row's -/

theorem zeroCells_size (z : Array Value) (n : Nat) : (Builtin.zeroCells z n).size = n * z.size := by simp [Builtin.zeroCells]

theorem appNew_ok (hr : HRel μ h w) {e : TypeId} {b s m cap : Nat} {cs : List S} {v : V} {x : Sem Value} {vals : Array Value} {z : Array Value} (he : appNew e b s m cs h = .val v h') (hcap : m ≤ cap)
    (hc : All2 (SRel μ) cs vals.toList) (hl : vals.size = m * s) (hz : z.size = s)
    (hx : x.run P w = .ok (.slice (some ⟨w.heap.size, 0, none⟩) m cap) { w.alloc (.cells (vals ++ Builtin.zeroCells z (cap - m)) e) with drawn := w.drawn + 1 }) : Done P h μ w x v h' := by
  unfold appNew at he
  cases hs : small m b with
  | false => rw [hs] at he; cases he
  | true =>
    rw [hs] at he
    obtain ⟨h1, rfl, rfl⟩ := newRow_some (f := fun i => S.slc i 0 m (.op s)) he
    have hsz : (vals ++ Builtin.zeroCells z (cap - m)).size = cap * s := by
      rw [Array.size_append, zeroCells_size, hl, hz, ← Nat.add_mul]; congr 1; omega
    have hle : m * s ≤ cap * s := Nat.mul_le_mul_right _ hcap
    have hcl : cs.length = vals.size := by simpa using hc.length
    refine NewRes.done hr h1 ⟨_, cap * s, _, 1, hx, fun μ' w' hle' hn hw => ⟨⟨_, _, cap, hn, rfl, hcap, .inr rfl, Nat.add_zero _⟩, _, _, hw, ?_, by show cs.length ≤ cap * s; omega, by rw [hsz]; exact Nat.le_refl _, fun _ => Free.none _⟩⟩
    intro k y hk
    obtain ⟨u, h2, h3⟩ := (All2.cellsRel hc) k y hk
    refine ⟨u, ?_, h3.mono hle'⟩
    rw [Array.getElem?_append, if_pos (Array.getElem?_eq_some_iff.1 h2).1]
    exact h2

/-- an object lets its block go, and a new one takes it -/
theorem HRel.move {w' : World} (hr : HRel μ h w) {i : Nat} {m m' : BI} {o : O} (hm : μ i = some m) (hl : h.get i ≠ .gone) (hn : h.n < most) (hb : m'.b = m.b) (hs : w'.heap.size = w.heap.size)
    (hk : ∀ b, b ≠ m.b → w'.heap[b]? = w.heap[b]?) (ho : ORel (μ.add h.n m') m' w' o) (e1 : w'.os = w.os) (e2 : w'.tape = w.tape) (e3 : w'.output = w.output) :
    HRel (μ.add h.n m') ((h.set i .gone).add o) w' ∧ Fr h μ w ((h.set i .gone).add o) (μ.add h.n m') w' := by
  have hle := Mu.le_add μ m' hr.fresh
  have hi := hr.lt_most hm
  have hok : (h.set i .gone).t.Ok hdepth := Tr.set_ok hr.ok _ _
  have hget : ∀ j, j < most → ((h.set i .gone).add o).get j = if h.n = j then o else if i = j then .gone else h.get j := fun j hj => by
    rw [H.get_add hok hn hj o, H.get_set hr.ok hi hj]
    rfl
  have hlive : ∀ j, j < most → h.n ≠ j → ((h.set i .gone).add o).get j ≠ .gone → i ≠ j ∧ h.get j ≠ .gone := by
    intro j hj hne hl'
    rw [hget j hj, if_neg hne] at hl'
    by_cases e : i = j
    · rw [if_pos e] at hl'; exact absurd rfl hl'
    · rw [if_neg e] at hl'; exact ⟨e, hl'⟩
  constructor
  · refine ⟨Tr.set_ok hok _ _, hn, ?_, ?_, ?_⟩
    · intro j x hx
      by_cases e : j = h.n
      · rw [e]; exact Nat.lt_succ_self _
      · rw [Mu.add_ne _ _ e] at hx; exact Nat.lt_succ_of_lt (hr.dom _ _ hx)
    · intro j hj hlj
      by_cases e : h.n = j
      · rw [hget j hj, if_pos e]; exact ⟨m', by rw [← e]; simp, ho⟩
      · obtain ⟨e', hlj'⟩ := hlive j hj e hlj
        rw [hget j hj, if_neg e, if_neg e']
        obtain ⟨x, h1, h2⟩ := hr.obj j hj hlj'
        exact ⟨x, hle _ _ h1, h2.mono hle (hk _ fun hb' => e' (hr.inj i j m x hi hj hl hlj' hm h1 hb'.symm))⟩
    · intro j k mj mk hj hk' hlj hlk hmj hmk hbb
      by_cases ej : h.n = j <;> by_cases ek : h.n = k
      · omega
      · exfalso
        obtain ⟨e', hlk'⟩ := hlive k hk' ek hlk
        rw [← ej, Mu.add_self] at hmj; cases hmj
        rw [Mu.add_ne _ _ (fun e => ek e.symm)] at hmk
        exact e' (hr.inj i k m mk hi hk' hl hlk' hm hmk (by omega))
      · exfalso
        obtain ⟨e', hlj'⟩ := hlive j hj ej hlj
        rw [← ek, Mu.add_self] at hmk; cases hmk
        rw [Mu.add_ne _ _ (fun e => ej e.symm)] at hmj
        exact e' (hr.inj i j m mj hi hj hl hlj' hm hmj (by omega))
      · obtain ⟨_, hlj'⟩ := hlive j hj ej hlj
        obtain ⟨_, hlk'⟩ := hlive k hk' ek hlk
        rw [Mu.add_ne _ _ (fun e => ej e.symm)] at hmj
        rw [Mu.add_ne _ _ (fun e => ek e.symm)] at hmk
        exact hr.inj j k mj mk hj hk' hlj' hlk' hmj hmk hbb
  · refine ⟨hle, Nat.le_succ _, ?_, by omega, ?_, ?_, e1, e2, e3⟩
    · intro j h1 h2
      by_cases e : j = h.n
      · omega
      · rw [Mu.add_ne _ _ e] at h2; exact absurd h1 h2
    · intro b _ hno
      exact hk b fun e => hno i m hi hl hm e.symm
    · intro j x hj hlj hx
      by_cases e : h.n = j
      · rw [← e, Mu.add_self] at hx; cases hx
        exact .inr ⟨i, m, hi, hl, hm, hb.symm⟩
      · obtain ⟨_, hlj'⟩ := hlive j hj e hlj
        rw [Mu.add_ne _ _ (fun e' => e e'.symm)] at hx
        exact .inr ⟨j, x, hj, hlj', hx, rfl⟩

theorem append_ok (hr : HRel μ h w) {t u ty : TypeId} {X Y v : V} {xv yv : Value} {ts : Array TypeId} (ht : ts[0]? = some t) (hu : ∀ q, ts[1]? = some q → q = u) (e : append P t u X Y h = .val v h')
    (hx : VRel μ X xv) (hy : VRel μ Y yv) : Done P h μ w (Builtin.append_ ts ty #[xv, yv]) v h' := by
  unfold append at e
  cases hi : isIntT P u with
  | true => rw [hi] at e; cases e
  | false =>
  rw [hi] at e
  cases hk : known P u with
  | false => rw [hk] at e; cases e
  | true =>
  rw [hk] at e
  cases hq : (ap (sliceElem P t) fun e => ap (bytesOf? P e) fun b => ap (sizeOf? P e) fun s => ap (zeroOf P e) fun zc => gd (Nat.beq (lenl zc) s) (some (e, b, s))) with
  | none => rw [hq] at e; cases e
  | some p =>
  rw [hq] at e
  obtain ⟨el, g1, g2⟩ := ap_some hq
  obtain ⟨b, g3, g4⟩ := ap_some g2
  obtain ⟨s, g5, g6⟩ := ap_some g4
  obtain ⟨zc, g7, g8⟩ := ap_some g6
  obtain ⟨g9, g10⟩ := gd_some g8
  cases g10
  rw [Nat.beq_eq, lenl_eq] at g9
  obtain ⟨i, z, k1, k2, k3⟩ := zeroOf_some g7
  obtain ⟨i', k4, k5⟩ := bytesOf?_some g3
  obtain ⟨i'', k6, k7⟩ := sizeOf?_some g5
  rw [k1] at k4 k6; cases k4; cases k6
  have hzs : z.cells.size = s := by rw [← g9, zeroCells_len k3]
  obtain ⟨x, rfl, e2⟩ := vS_ne (d := RO.bad) e (by simp)
  obtain ⟨y, rfl, e3⟩ := vS_ne (d := RO.bad) e2 (by simp)
  have e4 : appV el b s x y h = .val v h' := e3
  clear e e2 e3 hq g2 g4 g6 g8
  have t1 : ∀ q, ts[1]? = some q → ∃ d, P.underlying q = some d ∧ ∀ k, d ≠ .int k := by
    intro q hq
    rw [hu q hq]
    obtain ⟨d, hd⟩ := known_true hk
    refine ⟨d, hd, fun k hk' => ?_⟩
    subst hk'
    simp [isIntT, hd] at hi
  unfold appV at e4
  cases hn : lenOf y with
  | none => rw [hn] at e4; cases e4
  | some m =>
  rw [hn] at e4
  have hx' := one_rel hx
  have hy' := one_rel hy
  cases m with
  | zero =>
    have hnew : ∃ vs : List Value, vs = [] ∧ (∀ w1 : World, w1.heap = w.heap → (Builtin.firstCells i.size 0 yv).run P w1 = .ok vs.toArray w1) ∧ (Builtin.lenOf yv).run P w = .ok 0 w := by
      rcases lenOf_rel hn hy' with ⟨b, rfl, rfl, hb⟩ | ⟨rfl, rfl, _⟩ | ⟨i', o, c, a, cap, rfl, rfl⟩
      · have : b = [] := by cases b with
          | nil => rfl
          | cons => simp at hb
        subst this
        refine ⟨[], rfl, fun w1 _ => ?_, rfl⟩
        have hx : (bytesOf []).extract 0 0 = bytesOf [] := by rw [bytesOf, ByteArray.extract_mk]; simp
        simp only [Builtin.firstCells, hx]
        simp [bytesOf]
      · exact ⟨[], rfl, fun w1 _ => by simp [Builtin.firstCells], by simp [Builtin.lenOf]⟩
      · refine ⟨[], rfl, fun w1 _ => ?_, by simp [Builtin.lenOf]⟩
        simp only [Builtin.firstCells, Nat.zero_mul]
        rfl
    obtain ⟨vs, hvs, f1, f2⟩ := hnew
    subst hvs
    have A : AppArgs P w ts t el i z yv 0 #[] := ⟨ht, t1, sliceElem_some g1, k1, k2, f2, f1⟩
    have e5 : (sSlc x .bad (.val (one x) h) fun _ _ _ _ => .val (one x) h : RO) = .val v h' := e4
    rcases sSlc_ne e5 (by simp) with ⟨rfl, e6⟩ | ⟨j, o, len, c, rfl, e6⟩
    · cases e6
      cases hx'
      exact Done.pure hr ⟨_, run_append_none A, rfl⟩
    · cases e6
      have hx2 := hx'
      obtain ⟨M, a, cap, hm, rfl, hlc, _⟩ := hx'
      exact Done.pure hr ⟨_, run_append_in A (by omega) rfl, hx2⟩
  | succ m =>
    have e5 : (Option.casesOn (firstC s (m + 1) y h) .bad (fun new => sSlc x .bad (appNew el b s (m + 1) new h) fun i o len c => appSlc el b s (m + 1) new i o len c h) : RO) = .val v h' := e4
    cases hf : firstC s (m + 1) y h with
    | none => rw [hf] at e5; cases e5
    | some new =>
    rw [hf] at e5
    obtain ⟨vs, f1, f2, f3, f4⟩ := firstC_ok (P := P) hr hn hf hy'
    have A : AppArgs P w ts t el i z yv (m + 1) vs.toArray := ⟨ht, t1, sliceElem_some g1, k1, k2, f3, by rw [k7]; exact f2⟩
    clear e4
    have smallOf : ∀ (M : Nat) (cs : List S) (h1 : H), appNew el b s M cs h1 = .val v h' → small M i.bytes = true := by
      intro M cs h1 he
      rw [k5]
      unfold appNew at he
      cases hs : small M b with
      | false => rw [hs] at he; cases he
      | true => rfl
    rcases sSlc_ne e5 (by simp) with ⟨rfl, e6⟩ | ⟨j, o, len, c, rfl, e6⟩
    · cases hx'
      obtain ⟨cap, c1, c2⟩ := run_append_new (ty := ty) (sLen := 0) (sCap := 0) (base := none) (old := #[]) A (by omega) (by rw [Nat.zero_add]; exact smallOf _ _ _ e6)
        (fun w1 _ => by simp [Builtin.firstCells])
      rw [Nat.zero_add] at c1 c2
      refine appNew_ok (vals := #[] ++ vs.toArray) hr e6 c1 (by simpa using f1) (by simpa using f4) hzs c2
    · have e7 : appSlc el b s (m + 1) new j o len c h = .val v h' := e6
      obtain ⟨e', cs, fz, hg, e8⟩ := H.get_ne (d := RO.bad) e7 (by simp)
      obtain ⟨M, a, cap0, hm, rfl, hlc, ha, hc⟩ := hx'
      -- both ways to new memory
      have fresh : ∀ (h1 : H) (old : List S), HRel μ h1 w → sub? cs o (len * s) = some old → ¬ (len + (m + 1) ≤ cap0) → appNew el b s (len + (m + 1)) (app old new) h1 = .val v h' →
          Done P h1 μ w (Builtin.append_ ts ty #[.slice (some a) len cap0, yv]) v h' := by
        intro h1 old hr1 hold hno he
        obtain ⟨os, o1, o2, o3⟩ := loadCells_ok (P := P) (a := a) hr hm hg hold (by
          rcases ha with ha | ha
          · left; have : len = 0 := by omega
            rw [this]; exact Nat.zero_mul s
          · exact .inr ha)
        obtain ⟨cap, c1, c2⟩ := run_append_new (ty := ty) (sLen := len) (sCap := cap0) (base := some a) (old := os.toArray) A hno (smallOf _ _ _ he)
          (fun w1 hw => by simp only [Builtin.firstCells, k7]; exact o3 w1 hw)
        refine appNew_ok (vals := os.toArray ++ vs.toArray) hr1 he c1 ?_ (by simp [o2, f4, Nat.add_mul]) hzs c2
        rw [app_eq]
        simpa using o1.append f1
      cases c with
      | ex c =>
        have hc' : cap0 = c := hc
        subst hc'
        have e9 : (Bool.casesOn (Nat.ble (len + (m + 1)) cap0) (appEx el b o len (m + 1) s cs new h) .bad : RO) = .val v h' := e8
        cases hb : Nat.ble (len + (m + 1)) cap0 with
        | true => rw [hb] at e9; cases e9
        | false =>
          rw [hb] at e9
          have hno : ¬ (len + (m + 1) ≤ cap0) := fun hh => by rw [ble_iff.2 hh] at hb; cases hb
          have e10 : (Option.casesOn (sub? cs o (Nat.mul len s)) .bad (fun old => appNew el b s (Nat.add len (m + 1)) (app old new) h) : RO) = .val v h' := e9
          cases hs : sub? cs o (len * s) with
          | none =>
            have hs' : sub? cs o (Nat.mul len s) = none := hs
            rw [hs'] at e10; cases e10
          | some old =>
            have hs' : sub? cs o (Nat.mul len s) = some old := hs
            rw [hs'] at e10
            exact fresh h old hr hs hno e10
      | op q =>
        have e9 : (Bool.casesOn fz (Bool.casesOn (andb (Nat.beq e' el) (andb (Nat.beq q s) (Nat.beq (Nat.add o (Nat.mul len s)) (lenl cs)))) .bad (appAny el b j o len (m + 1) s cs new h)) .bad : RO) = .val v h' := e8
        cases fz with
        | true => cases e9
        | false =>
        have e10 : (Bool.casesOn (andb (Nat.beq e' el) (andb (Nat.beq q s) (Nat.beq (Nat.add o (Nat.mul len s)) (lenl cs)))) .bad (appAny el b j o len (m + 1) s cs new h) : RO) = .val v h' := e9
        cases hb : andb (Nat.beq e' el) (andb (Nat.beq q s) (Nat.beq (Nat.add o (Nat.mul len s)) (lenl cs))) with
        | false => rw [hb] at e10; cases e10
        | true =>
        rw [hb] at e10
        rw [andb_eq, andb_eq, Bool.and_eq_true, Bool.and_eq_true, Nat.beq_eq, Nat.beq_eq, Nat.beq_eq, lenl_eq] at hb
        obtain ⟨hb1, hb2, hb3⟩ := hb
        have hb1' : e' = el := hb1
        subst hb1'
        subst hb2
        have e11 : (Bool.casesOn (andb (Nat.beq o 0) (notb (Nat.beq q 0))) .bad (Option.casesOn (sub? cs o (Nat.mul len q)) .bad (fun old => appNew e' b q (Nat.add len (m + 1)) (app old new) (h.set j .gone))) : RO) = .val v h' := e10
        cases hb4 : andb (Nat.beq o 0) (notb (Nat.beq q 0)) with
        | false => rw [hb4] at e11; cases e11
        | true =>
        rw [hb4] at e11
        rw [andb_eq, notb_eq, Bool.and_eq_true, Nat.beq_eq] at hb4
        obtain ⟨ho, hq0⟩ := hb4
        subst ho
        have hq0' : q ≠ 0 := by
          rintro rfl
          simp at hq0
        have e12 : (Option.casesOn (sub? cs 0 (Nat.mul len q)) .bad (fun old => appNew e' b q (Nat.add len (m + 1)) (app old new) (h.set j .gone)) : RO) = .val v h' := e11
        cases hs : sub? cs 0 (len * q) with
        | none =>
          have hs' : sub? cs 0 (Nat.mul len q) = none := hs
          rw [hs'] at e12; cases e12
        | some old =>
          have hs' : sub? cs 0 (Nat.mul len q) = some old := hs
          rw [hs'] at e12
          have e13 : appNew e' b q (len + (m + 1)) (app old new) (h.set j .gone) = .val v h' := e12
          have hlt := hr.lt_most hm
          obtain ⟨d1, d2⟩ := hr.drop hlt
          by_cases hno : len + (m + 1) ≤ cap0
          · -- in place
            obtain ⟨cc, fr, r1, r2, r3, r4, r5⟩ := hr.row hm hg
            have hcapn : cap0 * q + 0 = M.n := hc
            have hlen : len * q = cs.length := by
              have : 0 + len * q = cs.length := hb3
              omega
            have hle : (len + (m + 1)) * q ≤ cap0 * q := Nat.mul_le_mul_right _ hno
            have hsum : (len + (m + 1)) * q = len * q + (m + 1) * q := Nat.add_mul _ _ _
            obtain ⟨w', c', s1, s2, s3, s4, s5⟩ := run_store_row (P := P) (b := M.b) (o := len * q) vs 0 cc w r1 (by omega) (r5 rfl) (fun v hv' => (f1.right hv').elim fun _ h => h.oneCell)
            have ha' : a = ⟨M.b, 0, none⟩ := by
              rcases ha with ha | ha
              · omega
              · exact ha
            subst ha'
            unfold appNew at e13
            cases hsm : small (len + (m + 1)) b with
            | false => rw [hsm] at e13; cases e13
            | true =>
            rw [hsm] at e13
            obtain ⟨h1, rfl, rfl⟩ := newRow_some (f := fun i => S.slc i 0 (len + (m + 1)) (.op q)) e13
            have hn' : (h.set j .gone).n = h.n := rfl
            have hold : old = cs := by
              obtain ⟨rfl, _⟩ := sub?_some hs
              rw [List.drop_zero, hlen, List.take_length]
            subst hold
            have hall : ∀ (k : Nat) (x : S), (app old new)[k]? = some x → ∃ v, c'[k]? = some v ∧ SRel (μ.add h.n M) x v := by
              intro k x hk
              rw [app_eq, List.getElem?_append] at hk
              have hmono := Mu.le_add μ M hr.fresh
              split at hk
              · obtain ⟨u, u1, u2⟩ := r2 k x hk
                refine ⟨u, ?_, u2.mono hmono⟩
                rw [s4 k, if_neg (by omega)]
                exact u1
              · obtain ⟨u, u1, u2⟩ := f1.get hk
                refine ⟨u, ?_, u2.mono hmono⟩
                have hk2 := (List.getElem?_eq_some_iff.1 u1).1
                rw [s4 k, if_pos (by omega), ← u1]
                congr 1
                omega
            have hfl := f1.length
            have ho : ORel (μ.add h.n M) M w' (.row e' (app old new) false) :=
              ⟨c', fr, s2, hall, by rw [app_eq, List.length_append]; omega, by omega, fun _ => by rw [s3]; exact r5 rfl⟩
            obtain ⟨m1, m2⟩ := hr.move (m' := M) hm (by rw [hg]; simp) h1 rfl s5.size s5.heap ho s5.os s5.tape s5.output
            refine ⟨_, w', _, run_append_in A hno (w' := w') ?_, ⟨M, _, cap0, by simp [hn'], rfl, hno, .inr rfl, hc⟩, m1, m2⟩
            rw [k7, Addr.add_lit, Nat.zero_add]
            simpa using s1
          · obtain ⟨rv, w', μ', x1, x2, x3, x4⟩ := fresh (h.set j .gone) old d1 hs hno e13
            exact ⟨rv, w', μ', x1, x2, x3, d2.trans x4⟩

end

end Go.Sx
