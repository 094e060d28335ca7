/-
  SOUNDNESS OF THE ABSTRACT INTERPRETER, eleventh part: ranging over maps and texts.
-/
import Derived.Test.YtechbpephhdmpaaGreatDoorB10
namespace Go.Sx

section
variable {P : Program} {w : World} {μ : Mu} {h h' : H}

/-- an operation that acts on memory is done: what comes of it -/
def Done (P : Program) (h : H) (μ : Mu) (w : World) (x : Sem Value) (v : V) (h' : H) : Prop :=
  ∃ rv w' μ', x.run P w = .ok rv w' ∧ VRel μ' v rv ∧ HRel μ' h' w' ∧ Fr h μ w h' μ' w'

theorem Done.pure (hr : HRel μ h w) {x : Sem Value} {v : V} (hx : ∃ rv, x.run P w = .ok rv w ∧ VRel μ v rv) : Done P h μ w x v h :=
  let ⟨rv, h1, h2⟩ := hx; ⟨rv, w, μ, h1, h2, hr, Fr.refl _ _ _⟩

theorem NewRes.done (hr : HRel μ h w) (hn : h.n < most) {x : Sem Value} {v : V} {o : O} (hx : NewRes P μ h.n w x v o) : Done P h μ w x v (h.add o) := NewRes.add hr hn hx

theorem new_val {o : O} {f : Nat → H → RO} {v : V} (e : h.new o .bad f = .val v h') : h.n < most ∧ f h.n (h.add o) = .val v h' := by
  rw [H.new_eq] at e
  split at e
  · exact ⟨by assumption, e⟩
  · cases e

theorem range_ok (hr : HRel μ h w) {t : TypeId} {X v : V} {xv : Value} (e : range P t X h = .val v h') (hx : VRel μ X xv) : Done P h μ w (Instr.range t xv) v h' := by
  obtain ⟨x, rfl, h1⟩ := vS_ne (d := RO.bad) e (by simp)
  by_cases hs : ∃ s, x = .str s
  · obtain ⟨s, rfl⟩ := hs
    have h2 : (Bool.casesOn (isStr P t) .bad (h.new (.siter s 0) .bad fun n h => .val (one (.ptr n 0)) h) : RO) = .val v h' := h1
    cases hb : isStr P t with
    | false => rw [hb] at h2; cases h2
    | true =>
      rw [hb] at h2
      obtain ⟨hn, h3⟩ := new_val (f := fun n h => RO.val (one (.ptr n 0)) h) h2
      cases h3
      cases one_rel hx
      refine NewRes.done hr hn ⟨.stringIter (bytesOf s) 0, 0, .pointer (some ⟨w.heap.size, 0, none⟩), 0, ?_, fun μ' w' _ hm hw => ⟨⟨_, hm, rfl⟩, hw⟩⟩
      simp only [Instr.range, Sem.run_bind, run_underlying' (isStr_true hb), Result.andThen_ok, strV_eq, Sem.run_pure, run_newObj_alloc]
      rfl
  · have h2 : (Bool.casesOn (mapOf P t).isSome .bad (sMap x .bad .bad fun i => oMap (h.get i) .bad fun _ c => h.new (.miter i c [] c) .bad fun n h => .val (one (.ptr n 0)) h) : RO) = .val v h' := by
      cases x <;> first | exact h1 | exact absurd ⟨_, rfl⟩ hs
    cases hb : (mapOf P t) with
    | none => rw [hb] at h2; cases h2
    | some m =>
      rw [hb] at h2
      rcases sMap_ne (n := RO.bad) (f := fun i => oMap (h.get i) .bad fun _ c => h.new (.miter i c [] c) .bad fun n h => .val (one (.ptr n 0)) h) h2 (by simp) with ⟨rfl, h3⟩ | ⟨i, rfl, h3⟩
      · cases h3
      · obtain ⟨es, c, h4, h5⟩ := oMap_ne h3 (by simp)
        obtain ⟨hn, h6⟩ := new_val (f := fun n h => RO.val (one (.ptr n 0)) h) h5
        cases h6
        obtain ⟨M, hm, rfl⟩ := one_rel hx
        obtain ⟨es', k1, k2⟩ := hr.mapAt hm h4
        refine NewRes.done hr hn ⟨.mapIter (some M.b) c #[] c, 0, .pointer (some ⟨w.heap.size, 0, none⟩), 0, ?_, fun μ' w' hle hn' hw => ⟨⟨_, hn', rfl⟩, M, hle _ _ hm, hw⟩⟩
        simp only [Instr.range, Sem.run_bind, run_underlying' (mapOf_some hb), Result.andThen_ok, run_getObj' k1 (by simp), Sem.run_pure, run_newObj_alloc]
        rfl

theorem get!_bytes {s : List Nat} {pos b : Nat} (h : s[pos]? = some b) : ((bytesOf s).get! pos).toNat = b % 256 := by
  have hn : pos < s.length := (List.getElem?_eq_some_iff.1 h).1
  have hg : s[pos] = b := by rw [List.getElem?_eq_getElem hn] at h; exact Option.some.inj h
  show ((bytesOf s).data[pos]!).toNat = _
  rw [getElem!_pos (bytesOf s).data pos (by simp [bytesOf]; exact hn)]
  simp [bytesOf, hg]

theorem decode_ascii {s : List Nat} {pos b : Nat} (h : s[pos]? = some b) (hb : b % 256 < 128) : Utf8.decode (bytesOf s) pos = (b % 256, 1) := by
  have e := get!_bytes h
  unfold Utf8.decode
  simp only [Nat.add_zero, e]
  rw [if_pos hb]

theorem left_eq (seen : List Nat) (es : List E) : left seen es = es.filter fun e => !(seen.any fun m => Nat.beq m e.born) := by
  induction es with
  | nil => rfl
  | cons e es ih =>
    have h1 : left seen (e :: es) = Bool.casesOn (hasN seen e.born) (e :: left seen es) (left seen es) := rfl
    have h2 : hasN seen e.born = seen.any fun m => Nat.beq m e.born := anyl_eq _ _
    rw [h1, h2, List.filter_cons, ih]
    cases (seen.any fun m => Nat.beq m e.born) <;> rfl

theorem contains_eq (seen : List Nat) (n : Nat) : seen.toArray.contains n = seen.any fun m => Nat.beq m n := by
  rw [List.contains_toArray]
  induction seen with
  | nil => rfl
  | cons m l ih =>
    rw [List.contains_cons, List.any_cons, ih]
    congr 1
    rw [Bool.eq_iff_iff, beq_iff_eq, Nat.beq_eq]
    exact eq_comm

theorem All2.filter {α β : Type} {R : α → β → Prop} {p : α → Bool} {q : β → Bool} {x : List α} {y : List β} (h : All2 R x y) (hpq : ∀ a b, R a b → p a = q b) : All2 R (x.filter p) (y.filter q) := by
  induction x generalizing y with
  | nil => rw [h.nil_left]; trivial
  | cons a x ih =>
    obtain ⟨b, y, rfl, h1, h2⟩ := h.cons_left
    rw [List.filter_cons, List.filter_cons, hpq a b h1]
    cases q b with
    | true => exact ⟨h1, ih h2⟩
    | false => exact ih h2

theorem left_rel {es : List E} {es' : List MapEntry} (h : All2 (ERel μ) es es') (seen : List Nat) : All2 (ERel μ) (left seen es) (es'.filter fun e => !(seen.toArray.contains e.born)) := by
  rw [left_eq]
  exact h.filter fun a b hab => by rw [contains_eq, hab.2.2]

/-- what 'next' over a map may choose from, where all was there from the begin on -/
theorem next_run {r b since stepped clock : Nat} {seen : List Nat} {es' L : Array MapEntry} {ty : TypeId} (hit : w.heap[r]? = some (.mapIter (some b) since seen.toArray stepped))
    (hmap : w.heap[b]? = some (.map es' clock)) (hst : since ≤ stepped) (hb : ∀ e ∈ es'.toList, e.born < since) (hL : (es'.filter fun e => !seen.toArray.contains e.born) = L) :
    (L = #[] → (Instr.next (.pointer (some ⟨r, 0, none⟩)) false ty).run P w = .ok (.tuple #[.bool false]) w) ∧
    (L ≠ #[] → ∃ (e : MapEntry) (w1 : World), e ∈ L.toList ∧ w1.heap = w.heap ∧ w1.os = w.os ∧ w1.tape = w.tape ∧ w1.output = w.output ∧ (Instr.next (.pointer (some ⟨r, 0, none⟩)) false ty).run P w =
      (do setObj r (.mapIter (some b) since (seen.toArray.push e.born) clock); pure (.tuple #[.bool true, e.key, e.val]) : Sem Value).run P w1) := by
  have hguard : (!seen.toArray.isEmpty && !es'.isEmpty && es'.all (·.born ≥ stepped)) = false := by
    cases hes : es'.isEmpty with
    | true => simp
    | false =>
      have hne : es'.toList ≠ [] := by
        intro e0
        have : es' = #[] := by simpa using e0
        rw [this] at hes
        simp at hes
      have hall : es'.all (·.born ≥ stepped) = false := by
        cases hl : es'.toList with
        | nil => exact absurd hl hne
        | cons e0 l =>
          rw [Bool.eq_false_iff]
          intro ha
          rw [Array.all_eq_true'] at ha
          have hm : e0 ∈ es'.toList := by rw [hl]; simp
          have h1 := ha e0 (by simpa using hm)
          have h2 := hb e0 hm
          simp at h1
          omega
      rw [hall]; simp
  have hold : ∀ e ∈ (es'.filter fun e => !seen.toArray.contains e.born), e.born < since := by
    intro e he
    rw [Array.mem_filter] at he
    exact hb e (by simpa using he.1)
  have e1 : (es'.filter fun e => !seen.toArray.contains e.born).filter (fun x => decide (x.born < since)) = es'.filter fun e => !seen.toArray.contains e.born := by
    rw [Array.filter_eq_self]
    intro e he
    simpa using hold e he
  have e2 : (es'.filter fun e => !seen.toArray.contains e.born).filter (fun x => decide (x.born ≥ since)) = #[] := by
    rw [Array.filter_eq_empty_iff]
    intro e he
    have := hold e he
    simp; omega
  rw [hL] at hold e1 e2
  have hrun : (Instr.next (.pointer (some ⟨r, 0, none⟩)) false ty).run P w =
      ((do match (((if L.isEmpty then #[none] else #[]) ++ L.map some : Array (Option MapEntry))[← choose (.mapNext ((if L.isEmpty then #[none] else #[]) ++ L.map some : Array (Option MapEntry)).size)]?) with
          | some (some e) =>
            setObj r (.mapIter (some b) since (seen.toArray.push e.born) clock)
            pure (.tuple #[.bool true, e.key, e.val])
          | some none => pure (.tuple #[.bool false])
          | none => stuck "Next: no such candidate") : Sem Value).run P w := by
    simp only [Instr.next, Sem.run_bind, run_getObj' hit (by simp), Result.andThen_ok, run_getObj' hmap (by simp), hguard, Bool.false_eq_true, if_false, hL, e1, e2, Array.append_empty]
    rfl
  constructor
  · intro h0
    rw [hrun, h0]
    simp [Question.forced]
  · intro h0
    have hem : L.isEmpty = false := by rw [Bool.eq_false_iff]; intro hh; exact h0 (by simpa using hh)
    have hsz : 0 < L.size := by
      rcases Nat.eq_zero_or_pos L.size with hz | hz
      · exact absurd (Array.eq_empty_of_size_eq_zero hz) h0
      · exact hz
    rw [hrun, hem]
    simp only [Bool.false_eq_true, if_false, Array.empty_append, Array.size_map, Sem.run_bind, run_choose, Question.forced]
    by_cases h1 : L.size ≤ 1
    · have : L.size = 1 := by omega
      refine ⟨L[0], w, by simp, rfl, rfl, rfl, rfl, ?_⟩
      simp [h1, hsz]
    · have hk : w.tape w.drawn (.mapNext L.size) % L.size < L.size := Nat.mod_lt _ hsz
      refine ⟨L[w.tape w.drawn (.mapNext L.size) % L.size], { w with drawn := w.drawn + 1 }, by simp, rfl, rfl, rfl, rfl, ?_⟩
      simp [h1, Question.cut, hk]

/-- an operation is done, in one of several ways -/
def DoneR (P : Program) (h : H) (μ : Mu) (w : World) (x : Sem Value) : RO → Prop
  | .val v h' => Done P h μ w x v h'
  | .fork l => ∃ p ∈ l, Done P h μ w x p.1 p.2
  | _ => True

theorem HRel.objAt (hr : HRel μ h w) {i : Nat} {m : BI} {o : O} (hm : μ i = some m) (hg : h.get i = o) (hl : o ≠ .gone) : ORel μ m w o := by
  obtain ⟨m', h1, h2⟩ := hr.obj i (hr.lt_most hm) (by rw [hg]; exact hl)
  rw [hm] at h1; cases h1
  rwa [hg] at h2

theorem setNext {r : Nat} {ob' : Obj} {x : Sem Value} {rv : Value} (w1 : World) (hx : x.run P w = (do setObj r ob'; pure rv : Sem Value).run P w1) {w' : World} (hs : (setObj r ob').run P w1 = .ok () w') : x.run P w = .ok rv w' := by
  rw [hx]
  simp only [Sem.run_bind, hs, Result.andThen_ok, Sem.run_pure]

theorem next_ok (hr : HRel μ h w) {I : V} {b : Bool} {iv : Value} (ty : TypeId) (hi : VRel μ I iv) : DoneR P h μ w (Instr.next iv b ty) (next I b h) := by
  generalize he : next I b h = R
  by_cases hbad : R = .bad
  · rw [hbad]; trivial
  obtain ⟨r, o, rfl, h1⟩ := vPtr_ne (d := RO.bad) he hbad
  obtain ⟨m, hm, rfl⟩ := ptr_rel hi
  cases o with
  | succ o => exact absurd h1.symm hbad
  | zero =>
    cases hg : h.get r <;> rw [hg] at h1 <;> first
      | exact absurd h1.symm hbad
      | skip
    case siter s pos =>
      cases b with
      | false => exact absurd h1.symm hbad
      | true =>
        have ho := hr.objAt hm hg (by simp)
        have ho' : w.heap[m.b]? = some (.stringIter (bytesOf s) pos) := ho
        have h2 : nextStr r s pos h = R := h1
        unfold nextStr at h2
        rw [nth?_eq] at h2
        cases hn : s[pos]? with
        | none =>
          rw [hn] at h2
          have h3 : RO.val (.tup [.s (.bool false)]) h = R := h2
          rw [← h3]
          refine ⟨.tuple #[.bool false], w, μ, ?_, ⟨_, rfl, rfl, trivial⟩, hr, Fr.refl _ _ _⟩
          have hp : ¬ (pos < (bytesOf s).size) := by rw [bytesOf_size]; exact fun hh => by rw [List.getElem?_eq_getElem hh] at hn; cases hn
          simp only [Instr.next, Sem.run_bind, run_getObj' ho' (by simp), Result.andThen_ok, hp, if_false, Sem.run_pure]
        | some c =>
          rw [hn] at h2
          cases hc : Nat.blt (byteN c) 128 with
          | false => simp only [hc] at h2; exact absurd h2.symm hbad
          | true =>
            simp only [hc] at h2
            rw [Nat.blt_eq] at hc
            have hc' : c % 256 < 128 := hc
            have h3 : RO.val (.tup [.s (.bool true), .s (.int .i64 (.ofNat pos)), .s (.int .i32 (.ofNat (byteN c)))]) (h.set r (.siter s (Nat.succ pos))) = R := h2
            rw [← h3]
            obtain ⟨w', s1, s2, s3, _⟩ := hr.putObj (P := P) (o := .siter s (Nat.succ pos)) (ob' := .stringIter (bytesOf s) (pos + 1)) hm (by rw [hg]; simp) ho' (by simp) (fun w' hw' => hw')
            refine ⟨.tuple #[.bool true, goInt pos, .int .i32 (c % 256 : Nat)], w', μ, ?_, ⟨_, rfl, rfl, rfl, rfl, trivial⟩, s2, s3⟩
            have hp : pos < (bytesOf s).size := by rw [bytesOf_size]; exact (List.getElem?_eq_some_iff.1 hn).1
            simp only [Instr.next, Sem.run_bind, run_getObj' ho' (by simp), Result.andThen_ok, hp, if_true, decode_ascii hn hc', s1, Sem.run_pure]
    case miter mi since seen stepped =>
      cases b with
      | true => exact absurd h1.symm hbad
      | false =>
        have h2 : nextMap r mi since seen stepped h = R := h1
        obtain ⟨es, clock, hgm, h3⟩ := oMap_ne (d := RO.bad) h2 hbad
        obtain ⟨mm, hmm, hit⟩ := hr.objAt hm hg (by simp)
        obtain ⟨es', k1, k2⟩ := hr.mapAt hmm hgm
        cases hc : andb (Nat.ble since stepped) (alll (fun e => Nat.blt e.born since) es) with
        | false => rw [hc] at h3; exact absurd h3.symm hbad
        | true =>
          rw [hc] at h3
          rw [andb_eq, alll_eq, Bool.and_eq_true, ble_iff, List.all_eq_true] at hc
          have hbo : ∀ e ∈ es'.toList, e.born < since := by
            intro e he
            obtain ⟨i, hi⟩ := List.getElem?_of_mem he
            obtain ⟨a, ha, hab⟩ := k2.get' hi
            have := hc.2 a (List.mem_of_getElem? ha)
            rw [Nat.blt_eq] at this
            rw [hab.2.2]; exact this
          obtain ⟨n1, n2⟩ := next_run (P := P) (ty := ty) hit k1 hc.1 hbo rfl
          have hlr := left_rel k2 seen
          rw [← Array.toList_filter] at hlr
          generalize hL : (es'.filter fun e => !seen.toArray.contains e.born) = L at *
          -- a step to an entry that is left
          have step : ∀ e0 ∈ left seen es, ∀ (e : MapEntry) (w1 : World), ERel μ e0 e → w1.heap = w.heap → w1.os = w.os → w1.tape = w.tape → w1.output = w.output →
              (Instr.next (.pointer (some ⟨m.b, 0, none⟩)) false ty).run P w = (do setObj m.b (.mapIter (some mm.b) since (seen.toArray.push e.born) clock); pure (.tuple #[.bool true, e.key, e.val]) : Sem Value).run P w1 →
              Done P h μ w (Instr.next (.pointer (some ⟨m.b, 0, none⟩)) false ty) (stepTo r mi since seen clock h e0).1 (stepTo r mi since seen clock h e0).2 := by
            intro e0 _ e w1 hee g1 g2 g3 g4 hrun
            obtain ⟨w', s1, s2, s3, _⟩ := (hr.heap g1).putObj (P := P) (o := .miter mi since (app seen [e0.born]) clock) (ob' := .mapIter (some mm.b) since (seen.toArray.push e.born) clock) hm (by rw [hg]; simp) (by rw [g1]; exact hit) (by simp)
              (fun w' hw' => ⟨mm, hmm, by rw [app_eq, ← hee.2.2]; simpa using hw'⟩)
            exact ⟨_, w', μ, setNext w1 hrun s1, ⟨_, rfl, rfl, hee.1, hee.2.1, trivial⟩, s2, (Fr.same g1 g2 g3 g4).trans s3⟩
          cases hle : left seen es with
          | nil =>
            rw [hle] at h3 hlr
            have h4 : RO.val (.tup [.s (.bool false)]) h = R := h3
            rw [← h4]
            have : L = #[] := by have := hlr.nil_left; simpa using this
            exact ⟨_, w, μ, n1 this, ⟨_, rfl, rfl, trivial⟩, hr, Fr.refl _ _ _⟩
          | cons e0 rest =>
            have hne : L ≠ #[] := by
              intro h0
              rw [hle, h0] at hlr
              exact hlr
            obtain ⟨e, w1, he1, g1, g2, g3, g4, hrun⟩ := n2 hne
            obtain ⟨i, hi⟩ := List.getElem?_of_mem he1
            obtain ⟨a, ha, hab⟩ := hlr.get' hi
            have ham := List.mem_of_getElem? ha
            have hd := step a ham e w1 hab g1 g2 g3 g4 hrun
            rw [hle] at h3 ham
            cases rest with
            | nil =>
              have h4 : RO.val (stepTo r mi since seen clock h e0).1 (stepTo r mi since seen clock h e0).2 = R := h3
              rw [← h4]
              have : a = e0 := by simpa using ham
              rw [this] at hd
              exact hd
            | cons e1 rest =>
              have h4 : RO.fork (mapl (stepTo r mi since seen clock h) (e0 :: e1 :: rest)) = R := h3
              rw [← h4]
              refine ⟨stepTo r mi since seen clock h a, ?_, hd⟩
              rw [mapl_eq]
              exact List.mem_map_of_mem ham

theorem lastl_eq (l : List Nat) : lastl l = l.getLast? := by
  induction l with
  | nil => rfl
  | cons x l ih =>
    have h1 : lastl (x :: l) = Option.casesOn (lastl l) (some x) (fun y => some y) := rfl
    rw [h1, ih]
    cases l with
    | nil => rfl
    | cons y l =>
      rw [List.getLast?_cons_cons]
      cases hl : (y :: l).getLast? with
      | none => simp at hl
      | some z => rfl

theorem entryIn_ok {es : List E} {es' : List MapEntry} (he : All2 (ERel μ) es es') {n : Nat} {r : V} (h : entryIn n es = some r) :
    ∃ e, es'.find? (fun e => e.born == n) = some e ∧ VRel μ r (.tuple #[e.key, e.val]) := by
  induction es generalizing es' with
  | nil => cases h
  | cons e es ih =>
    obtain ⟨e', es', rfl, ⟨h1, h2, h3⟩, he⟩ := he.cons_left
    have h' : (Bool.casesOn (Nat.beq e.born n) (entryIn n es) (some (.tup [e.k, e.v])) : Option V) = some r := h
    cases hb : Nat.beq e.born n with
    | true =>
      rw [hb] at h'
      cases h'
      rw [Nat.beq_eq] at hb
      refine ⟨e', by simp [h3, hb], _, rfl, h1, h2, trivial⟩
    | false =>
      rw [hb] at h'
      obtain ⟨x, h4, h5⟩ := ih he h'
      refine ⟨x, ?_, h5⟩
      have : ¬ (e.born = n) := fun hh => by rw [← Nat.beq_eq, hb] at hh; cases hh
      have hb2 : (e.born == n) = false := by simpa using this
      rw [List.find?_cons, h3, hb2]
      exact h4

theorem entry_ok (hr : HRel μ h w) {I r : V} {iv : Value} (e : entry I h = some r) (hi : VRel μ I iv) : ∃ rv, (Instr.entry iv).run P w = .ok rv w ∧ VRel μ r rv := by
  obtain ⟨r, o, rfl, h1⟩ := vPtr_ne (d := none) e (by simp)
  obtain ⟨m, hm, rfl⟩ := ptr_rel hi
  cases o with
  | succ o => cases h1
  | zero =>
    cases hg : h.get r <;> rw [hg] at h1 <;> first
      | (cases h1; done)
      | skip
    case miter mi since seen stepped =>
      obtain ⟨n, h2, h3⟩ := ap_some (o := lastl seen) (f := fun n => oMap (h.get mi) none fun es clock => gd (Nat.beq clock stepped) (entryIn n es)) h1
      obtain ⟨es, clock, hgm, h4⟩ := oMap_ne (d := none) h3 (by simp)
      obtain ⟨h5, h6⟩ := gd_some h4
      obtain ⟨mm, hmm, hit⟩ := hr.objAt hm hg (by simp)
      obtain ⟨es', k1, k2⟩ := hr.mapAt hmm hgm
      rw [Nat.beq_eq] at h5
      subst h5
      obtain ⟨x, h7, h8⟩ := entryIn_ok k2 h6
      rw [lastl_eq] at h2
      refine ⟨_, ?_, h8⟩
      have hback : seen.toArray.back? = some n := by simpa using h2
      have hfind : es'.find? (fun e => e.born == n) = some x := by simpa using h7
      simp only [Instr.entry, Sem.run_bind, run_getObj' hit (by simp), Result.andThen_ok, hback, run_getObj' k1 (by simp), bne_self_eq_false, Bool.false_eq_true, if_false, hfind, Sem.run_pure]

end

end Go.Sx
