/-
  SOUNDNESS OF THE ABSTRACT INTERPRETER, eighth part: reading and writing rows; new rows.
-/
import Derived.Test.YtechbpephhdmpaaGreatDoorB7
import Derived.Laws.NewFold
namespace Go.Sx

section
variable {P : Program} {w : World} {μ : Mu} {h h' : H}

theorem H.get_ne {α : Type} {d r : α} {i : Nat} {f : TypeId → List S → Bool → α} (e : hRow h i d f = r) (hr : r ≠ d) : ∃ t cs fz, h.get i = .row t cs fz ∧ f t cs fz = r := oRow_ne e hr

/-- a row that the abstract memory knows -/
theorem HRel.row (hr : HRel μ h w) {i : Nat} {m : BI} {e : TypeId} {cs : List S} {fz : Bool} (hm : μ i = some m) (hg : h.get i = .row e cs fz) :
    ∃ c fr, w.heap[m.b]? = some (.cells c e fr) ∧ CellsRel μ cs c ∧ cs.length ≤ m.n ∧ m.n ≤ c.size ∧ (fz = false → Free fr c.size) := by
  obtain ⟨m', h1, h2⟩ := hr.obj i (hr.lt_most hm) (by rw [hg]; simp)
  rw [hm] at h1; cases h1
  rw [hg] at h2
  exact h2

theorem cell_row {b k : Nat} {c : Array Value} {e : TypeId} {fr : Nat × Nat} (hb : w.heap[b]? = some (.cells c e fr)) : w.cell? ⟨b, k, none⟩ = c[k]? := by simp [World.cell?, hb]
theorem shape_row {b : Nat} {c : Array Value} {e : TypeId} {fr : Nat × Nat} (hb : w.heap[b]? = some (.cells c e fr)) : w.shape? b = some (e, c.size) := by simp [World.shape?, hb]
theorem frozen_row {b k : Nat} {c : Array Value} {e : TypeId} {fr : Nat × Nat} (hb : w.heap[b]? = some (.cells c e fr)) : w.frozen? ⟨b, k, none⟩ = (decide (fr.1 ≤ k) && decide (k < fr.2)) := by
  simp [World.frozen?, hb]

theorem CellsRel.sub {cs x : List S} {c : Array Value} (hc : CellsRel μ cs c) (hl : cs.length ≤ c.size) {o n : Nat} (hs : sub? cs o n = some x) :
    ∃ vs : List Value, vs.length = n ∧ All2 (SRel μ) x vs ∧ ∀ j v, vs[j]? = some v → c[o + j]? = some v := by
  obtain ⟨rfl, hn⟩ := sub?_some hs
  refine ⟨(c.toList.drop o).take n, ?_, ?_, ?_⟩
  · rcases hn with rfl | hn
    · simp
    · simp; omega
  · apply All2.of_get
    · rcases hn with rfl | hn
      · simp
      · simp; omega
    · intro j a b h1 h2
      rw [List.getElem?_take] at h1 h2
      split at h1
      · rename_i hj
        rw [if_pos hj] at h2
        rw [List.getElem?_drop] at h1 h2
        obtain ⟨v, h3, h4⟩ := hc _ _ h1
        have h2' : c[o + j]? = some b := by simpa using h2
        rw [h2'] at h3; cases h3
        exact h4
      · cases h1
  · intro j v hj
    rw [List.getElem?_take] at hj
    split at hj
    · rw [List.getElem?_drop] at hj; simpa using hj
    · cases hj

theorem loadV_ok (hr : HRel μ h w) {t : TypeId} {A r : V} {av : Value} (e : loadV P t A h = some r) (ha : VRel μ A av) :
    ∃ rv, (Instr.loadAt t av).run P w = .ok rv w ∧ VRel μ r rv := by
  obtain ⟨g, h1, h2⟩ := ap_some e
  obtain ⟨n, h3, h4⟩ := ap_some h2
  obtain ⟨i, o, rfl, h5⟩ := vPtr_ne (d := none) h4 (by simp)
  obtain ⟨ty, cs, fz, h6, h7⟩ := H.get_ne h5 (by simp)
  obtain ⟨m, hm, rfl⟩ := ptr_rel ha
  obtain ⟨c, fr, k1, k2, k3, k4, _⟩ := hr.row hm h6
  simp only [Instr.loadAt, Instr.sureAddr, Sem.run_bind, Sem.run_pure, Result.andThen_ok, loadVar, run_isAgg' h1]
  cases g with
  | false =>
    obtain ⟨x, h8, h9⟩ := ap_some (o := nth? cs o) (f := fun x => some (one x)) h7
    cases h9
    rw [nth?_eq] at h8
    obtain ⟨v, h10, h11⟩ := k2 _ _ h8
    exact ⟨v, by simp [cell_row k1, h10], h11⟩
  | true =>
    obtain ⟨x, h8, h9⟩ := ap_some (o := sub? cs o n) (f := fun c => some (agg c)) h7
    cases h9
    obtain ⟨vs, h10, h11, h12⟩ := k2.sub (by omega) h8
    have hl := run_loadCells_list (P := P) w ⟨m.b, o, none⟩ vs (fun j v hj => by rw [Addr.add_lit, cell_row k1]; exact h12 j v hj)
    rw [h10] at hl
    exact ⟨.agg vs.toArray, by simp [run_sizeOf' h3, hl], vs.toArray, rfl, by simpa using h11⟩

/-! ### writing -/

theorem over_some {vs cs r : List S} (h : over vs cs = some r) : vs.length ≤ cs.length ∧ r = vs ++ cs.drop vs.length := by
  induction vs generalizing cs r with
  | nil => cases h; simp
  | cons v vs ih => cases cs with
    | nil => cases h
    | cons c cs =>
      obtain ⟨x, h1, h2⟩ := ap_some (o := over vs cs) (f := fun x => some (v :: x)) h
      cases h2
      obtain ⟨h3, rfl⟩ := ih h1
      simp; omega
theorem lay_some {cs vs r : List S} {o : Nat} (h : lay cs o vs = some r) : o + vs.length ≤ cs.length ∧ r = cs.take o ++ (vs ++ cs.drop (o + vs.length)) := by
  induction cs generalizing o r with
  | nil => cases o with
    | zero =>
      obtain ⟨h1, h2⟩ := over_some (vs := vs) (cs := []) h
      simp at h1
      subst h1
      simpa using h2
    | succ o => cases h
  | cons c cs ih => cases o with
    | zero =>
      obtain ⟨h1, h2⟩ := over_some (vs := vs) (cs := c :: cs) h
      exact ⟨by omega, by simpa using h2⟩
    | succ o =>
      obtain ⟨x, h1, h2⟩ := ap_some (o := lay cs o vs) (f := fun x => some (c :: x)) h
      cases h2
      obtain ⟨h3, rfl⟩ := ih h1
      refine ⟨by simp; omega, ?_⟩
      simp [Nat.add_right_comm o 1]
theorem lay_get {cs vs r : List S} {o : Nat} (h : lay cs o vs = some r) : r.length = cs.length ∧ o + vs.length ≤ cs.length ∧
    ∀ k, r[k]? = if o ≤ k ∧ k < o + vs.length then vs[k - o]? else cs[k]? := by
  obtain ⟨h1, rfl⟩ := lay_some h
  refine ⟨by simp; omega, h1, fun k => ?_⟩
  rw [List.getElem?_append, List.getElem?_append]
  have hl : (List.take o cs).length = o := by simp; omega
  rw [hl]
  by_cases h2 : k < o
  · rw [if_pos h2, if_neg (by omega), List.getElem?_take, if_pos h2]
  · rw [if_neg h2]
    by_cases h3 : k - o < vs.length
    · rw [if_pos h3, if_pos (by omega)]
    · rw [if_neg h3, if_neg (by omega), List.getElem?_drop]
      congr 1
      omega

/-- two worlds that differ in one block alone -/
structure Only (b : Nat) (w w' : World) : Prop where
  size : w'.heap.size = w.heap.size
  heap : ∀ b', b' ≠ b → w'.heap[b']? = w.heap[b']?
  os : w'.os = w.os
  tape : w'.tape = w.tape
  output : w'.output = w.output
  drawn : w'.drawn = w.drawn
theorem Only.refl (b : Nat) (w : World) : Only b w w := ⟨rfl, fun _ _ => rfl, rfl, rfl, rfl, rfl⟩
theorem Only.trans {b : Nat} {w w' w'' : World} (x : Only b w w') (y : Only b w' w'') : Only b w w'' :=
  ⟨y.size.trans x.size, fun b' hb => (y.heap b' hb).trans (x.heap b' hb), y.os.trans x.os, y.tape.trans x.tape, y.output.trans x.output, y.drawn.trans x.drawn⟩
theorem Only.setCell (w : World) (a : Addr) (v : Value) : Only a.block w (w.setCell a v) :=
  ⟨by simp, fun b' hb => by simp only [World.setCell, Array.getElem?_modify]; rw [if_neg (fun e => hb e.symm)], rfl, rfl, rfl, rfl⟩

theorem run_store_row {b o : Nat} {e : TypeId} {fr : Nat × Nat} (vs : List Value) : ∀ (i : Nat) (c : Array Value) (w : World), w.heap[b]? = some (.cells c e fr) → o + i + vs.length ≤ c.size → Free fr c.size →
    (∀ v ∈ vs, v.oneCell' = true) → ∃ w' c', (storeCells ⟨b, o, none⟩ vs i).run P w = .ok () w' ∧ w'.heap[b]? = some (.cells c' e fr) ∧ c'.size = c.size ∧
      (∀ k : Nat, c'[k]? = if o + i ≤ k ∧ k < o + i + vs.length then vs[k - (o + i)]? else c[k]?) ∧ Only b w w' := by
  induction vs with
  | nil =>
    intro i c w hb _ _ _
    refine ⟨w, c, rfl, hb, rfl, fun k => ?_, Only.refl _ _⟩
    rw [if_neg]
    simp
  | cons v vs ih =>
    intro i c w hb hl hf hv
    simp at hl
    have hi : o + i < c.size := by omega
    have hcell : w.cell? ⟨b, o + i, none⟩ = some c[o + i] := by rw [cell_row hb]; simp [hi]
    have hfro : w.frozen? ⟨b, o + i, none⟩ = false := by
      rw [frozen_row hb]
      have := hf (o + i) hi
      rw [Bool.eq_false_iff]
      simpa using this
    have hst : (store ((⟨b, o, none⟩ : Addr).add i) v).run P w = .ok () (w.setCell ⟨b, o + i, none⟩ v) := by
      rw [Addr.add_lit, run_store P w _ v _ (hv v (by simp)), hcell]
      simp [hfro]
    have hb' : (w.setCell ⟨b, o + i, none⟩ v).heap[b]? = some (.cells (c.setIfInBounds (o + i) v) e fr) := by
      simp [World.setCell, Array.getElem?_modify, hb]
    obtain ⟨w', c', h1, h2, h3, h4, h5⟩ := ih (i + 1) (c.setIfInBounds (o + i) v) (w.setCell ⟨b, o + i, none⟩ v) hb' (by simp; omega) (by simpa using hf) (fun x hx => hv x (by simp [hx]))
    refine ⟨w', c', ?_, h2, by rw [h3]; simp, fun k => ?_, (Only.setCell w ⟨b, o + i, none⟩ v).trans h5⟩
    · simp only [storeCells, Sem.run_bind, hst, Result.andThen_ok, h1]
    · rw [h4 k, Array.getElem?_setIfInBounds]
      by_cases e1 : k = o + i
      · subst e1
        rw [if_neg (by omega), if_pos rfl, if_pos hi, if_pos (by simp)]
        simp
      · by_cases e2 : o + i ≤ k ∧ k < o + i + (vs.length + 1)
        · rw [if_pos (by omega), if_pos (by simpa using e2)]
          rw [show k - (o + i) = (k - (o + (i + 1))) + 1 by omega, List.getElem?_cons_succ]
        · rw [if_neg (by omega), if_neg (fun e => e1 e.symm), if_neg (by simpa using e2)]

theorem SRel.oneCell {x : S} {v : Value} (hr : SRel μ x v) : v.oneCell' = true := by
  have h1 := hr.cell.1
  have h2 := hr.cell.2
  cases v <;> first | rfl | exact absurd rfl (h1 _) | exact absurd rfl (h2 _)

theorem All2.right {α β : Type} {R : α → β → Prop} {x : List α} {y : List β} (h : All2 R x y) {b : β} (hb : b ∈ y) : ∃ a, R a b := by
  obtain ⟨i, hi⟩ := List.getElem?_of_mem hb
  obtain ⟨a, _, h2⟩ := h.get' hi
  exact ⟨a, h2⟩

theorem storeC_ok (hr : HRel μ h w) {i o : Nat} {m : BI} {vs : List S} {xs : List Value} (hm : μ i = some m) (e : storeC i o vs h = some h') (hv : All2 (SRel μ) vs xs) :
    ∃ w', (storeCells ⟨m.b, o, none⟩ xs).run P w = .ok () w' ∧ HRel μ h' w' ∧ Fr h μ w h' μ w' ∧ w'.drawn = w.drawn := by
  obtain ⟨ty, cs, fz, h6, h7⟩ := H.get_ne e (by simp)
  cases fz with
  | true => cases h7
  | false =>
    obtain ⟨cs', h8, h9⟩ := ap_some (o := lay cs o vs) (f := fun cs => some (h.set i (.row ty cs false))) h7
    cases h9
    obtain ⟨c, fr, k1, k2, k3, k4, k5⟩ := hr.row hm h6
    obtain ⟨l1, l2, l3⟩ := lay_get h8
    have hlen := hv.length
    obtain ⟨w', c', s1, s2, s3, s4, s5⟩ := run_store_row (P := P) (o := o) xs 0 c w k1 (by omega) (k5 rfl) (fun v hv' => (hv.right hv').elim fun _ h => h.oneCell)
    have ho : ORel μ m w' (.row ty cs' false) := by
      refine ⟨c', fr, s2, ?_, by omega, by omega, fun _ => by rw [s3]; exact k5 rfl⟩
      intro k x hk
      rw [l3 k] at hk
      rw [s4 k]
      by_cases hin : o ≤ k ∧ k < o + vs.length
      · rw [if_pos hin] at hk
        rw [if_pos (by omega)]
        simpa using hv.get hk
      · rw [if_neg hin] at hk
        rw [if_neg (by omega)]
        exact k2 k x hk
    obtain ⟨r1, r2⟩ := hr.put hm (by rw [h6]; simp) s5.size s5.heap ho s5.os s5.tape s5.output
    exact ⟨w', s1, r1, r2, s5.drawn⟩

theorem storeV_ok (hr : HRel μ h w) {t : TypeId} {A X : V} {av xv : Value} (e : storeV P t A X h = some h') (ha : VRel μ A av) (hx : VRel μ X xv) :
    ∃ w', (Instr.storeAt t av xv).run P w = .ok () w' ∧ HRel μ h' w' ∧ Fr h μ w h' μ w' ∧ w'.drawn = w.drawn := by
  obtain ⟨i, o, rfl, h5⟩ := vPtr_ne (d := none) e (by simp)
  obtain ⟨n, h3, h4⟩ := ap_some h5
  obtain ⟨u, rfl, h6⟩ := vCells_ne (d := none) h4 (by simp)
  obtain ⟨h7, h8⟩ := gd_some h6
  rw [Nat.beq_eq, lenl_eq] at h7
  obtain ⟨m, hm, rfl⟩ := ptr_rel ha
  have hc := URel.cells hx
  obtain ⟨w', s1, s2⟩ := storeC_ok (P := P) hr hm h8 hc
  have hl := hc.length
  have hsz : xv.cells.size = n := by simp at hl; omega
  refine ⟨w', ?_, s2⟩
  simp only [Instr.storeAt, Instr.sureAddr, Sem.run_bind, Sem.run_pure, Result.andThen_ok, storeVar, run_sizeOf' h3, hsz, ne_eq, not_true, if_false]
  exact s1

/-! ### new objects -/

/-- an operation that makes one object and looks at none: what becomes of it in whatever memory -/
def NewRes (P : Program) (μ : Mu) (n : Nat) (w : World) (x : Sem Value) (v : V) (o : O) : Prop :=
  ∃ obj sz rv k, x.run P w = .ok rv { w.alloc obj with drawn := w.drawn + k } ∧
    ∀ μ' w', Mu.le μ μ' → μ' n = some ⟨w.heap.size, sz⟩ → w'.heap[w.heap.size]? = some obj → VRel μ' v rv ∧ ORel μ' ⟨w.heap.size, sz⟩ w' o

theorem newRow_some {e : TypeId} {cs : List S} {f : Nat → S} {v : V} (he : newRow e cs h f = .val v h') : h.n < most ∧ v = one (f h.n) ∧ h' = h.add (.row e cs false) := by
  unfold newRow at he
  rw [H.new_eq] at he
  split at he
  · cases he; exact ⟨by assumption, rfl, rfl⟩
  · cases he

theorem Free.none (n : Nat) : Free (0, 0) n := fun k _ hk => absurd hk.2 (Nat.not_lt_zero k)

/-- a new row -/
theorem newRes_row {n : Nat} {x : Sem Value} {v : V} {e : TypeId} {cs : List S} {c : Array Value} {rv : Value} (hx : x.run P w = .ok rv (w.alloc (.cells c e)))
    (hc : ∀ μ', Mu.le μ μ' → CellsRel μ' cs c) (hl : cs.length ≤ c.size) (hv : ∀ μ', Mu.le μ μ' → μ' n = some ⟨w.heap.size, c.size⟩ → VRel μ' v rv) : NewRes P μ n w x v (.row e cs false) :=
  ⟨.cells c e, c.size, rv, 0, hx, fun μ' _ hle hn hw => ⟨hv μ' hle hn, c, (0, 0), hw, hc μ' hle, hl, Nat.le_refl _, fun _ => Free.none _⟩⟩

theorem All2.cellsRel {cs : List S} {c : Array Value} (h : All2 (SRel μ) cs c.toList) : CellsRel μ cs c := fun k x hk => by
  obtain ⟨v, h1, h2⟩ := h.get hk
  exact ⟨v, by simpa using h1, h2⟩

/-- a new object in the memory as it is -/
theorem NewRes.add (hr : HRel μ h w) (hn : h.n < most) {x : Sem Value} {v : V} {o : O} (hx : NewRes P μ h.n w x v o) :
    ∃ rv w' μ', x.run P w = .ok rv w' ∧ VRel μ' v rv ∧ HRel μ' (h.add o) w' ∧ Fr h μ w (h.add o) μ' w' := by
  obtain ⟨obj, sz, rv, k, h1, h2⟩ := hx
  have hle := Mu.le_add μ ⟨w.heap.size, sz⟩ hr.fresh
  have hnew : ({ w.alloc obj with drawn := w.drawn + k } : World).heap[w.heap.size]? = some obj := by show (w.heap.push obj)[w.heap.size]? = some obj; simp
  obtain ⟨h3, h4⟩ := h2 _ { w.alloc obj with drawn := w.drawn + k } hle (Mu.add_self _ _ _) hnew
  refine ⟨rv, _, _, h1, h3, ?_⟩
  exact hr.add hn rfl (by simp) (fun b hb => by show (w.heap.push obj)[b]? = _; simp [Array.getElem?_push, Nat.ne_of_lt hb]) h4 rfl rfl rfl

theorem alloc_ok {t : TypeId} {v : V} (e : alloc P t h = .val v h') : h.n < most ∧ ∃ o, h' = h.add o ∧ ∀ w, NewRes P μ h.n w (Instr.alloc t true (.tuple #[])) v o := by
  unfold alloc at e
  cases hz : zeroOf P t with
  | none => rw [hz] at e; cases e
  | some zc =>
    rw [hz] at e
    obtain ⟨h1, rfl, rfl⟩ := newRow_some e
    obtain ⟨i, z, h2, h3, h4⟩ := zeroOf_some hz
    refine ⟨h1, _, rfl, fun w => newRes_row (rv := .pointer (some ⟨w.heap.size, 0, none⟩)) (c := z.cells) ?_ (fun μ' _ => All2.cellsRel (h4 μ')) ?_ (fun μ' _ hn => ⟨_, hn, rfl⟩)⟩
    · simp [Instr.alloc, run_zeroValue' h2 h3, Go.newVar, Go.newRow]
    · have := (h4 μ).length; simp at this; omega

theorem box_ok {t : TypeId} {X v : V} {xv : Value} (e : newVar t X h = .val v h') (hx : VRel μ X xv) : h.n < most ∧ ∃ o, h' = h.add o ∧ ∀ w, NewRes P μ h.n w (Instr.box t xv) v o := by
  obtain ⟨u, rfl, e2⟩ := vCells_ne (d := RO.bad) e (by simp)
  obtain ⟨h1, rfl, rfl⟩ := newRow_some e2
  have hc := URel.cells hx
  refine ⟨h1, _, rfl, fun w => newRes_row (rv := .pointer (some ⟨w.heap.size, 0, none⟩)) (c := xv.cells) ?_ (fun μ' hle => (All2.cellsRel hc).mono hle) ?_ (fun μ' _ hn => ⟨_, hn, rfl⟩)⟩
  · simp [Instr.box, Go.newVar, Go.newRow]
  · have := hc.length; simp at this; omega

theorem makeMap_ok {t : TypeId} {r : Option Operand} {v : V} (e : makeMap r h = .val v h') : r = none ∧ h.n < most ∧ ∃ o, h' = h.add o ∧ ∀ w, NewRes P μ h.n w (Instr.makeMap t none) v o := by
  unfold makeMap at e
  cases r with
  | some r => cases e
  | none =>
    have e' : h.new (.map [] 0) .bad (fun n h => .val (one (.map n)) h) = RO.val v h' := e
    rw [H.new_eq] at e'
    split at e'
    · rename_i hn
      cases e'
      exact ⟨rfl, hn, _, rfl, fun w => ⟨.map #[] 0, 0, .map (some w.heap.size), 0, (show _ = Result.ok _ (w.alloc _) by simp [Instr.makeMap]), fun μ' w' hle hm hw => ⟨⟨_, hm, rfl⟩, #[], hw, trivial⟩⟩⟩
    · cases e'

end

end Go.Sx
