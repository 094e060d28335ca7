/-
  SOUNDNESS OF THE ABSTRACT INTERPRETER, ninth part: literals of structs, arrays and slices; make.
-/
import Derived.Test.YtechbpephhdmpaaGreatDoorB8
import Derived.Laws.MakeOwn
namespace Go.Sx

section
variable {P : Program} {w : World} {μ : Mu} {h h' : H}

theorem lay_all2 {cs vs r : List S} {o : Nat} (e : lay cs o vs = some r) {c c' : Array Value} {xs : List Value} (hc : All2 (SRel μ) cs c.toList) (hv : All2 (SRel μ) vs xs)
    (hl : c'.size = c.size) (h : ∀ k : Nat, c'[k]? = if o ≤ k ∧ k < o + xs.length then xs[k - o]? else c[k]?) : All2 (SRel μ) r c'.toList := by
  obtain ⟨l1, l2, l3⟩ := lay_get e
  have hlc := hc.length
  have hlv := hv.length
  apply All2.of_get
  · simp at hlc ⊢; omega
  · intro k a b h1 h2
    rw [l3 k] at h1
    have h2' : c'[k]? = some b := by simpa using h2
    rw [h k] at h2'
    by_cases hin : o ≤ k ∧ k < o + vs.length
    · rw [if_pos hin] at h1
      rw [if_pos (by omega)] at h2'
      obtain ⟨b', h3, h4⟩ := hv.get h1
      rw [h2'] at h3; cases h3
      exact h4
    · rw [if_neg hin] at h1
      rw [if_neg (by omega)] at h2'
      obtain ⟨b', h3, h4⟩ := hc.get h1
      have h3' : c[k]? = some b' := by simpa using h3
      rw [h2'] at h3'; cases h3'
      exact h4

theorem foldl_set (off : Nat) (l : List Value) : ∀ (i : Nat) (c : Array Value), off + i + l.length ≤ c.size →
    let r := (l.zipIdx i).foldl (fun (cs : Array Value) (p : Value × Nat) => cs.setIfInBounds (off + p.2) p.1) c
    r.size = c.size ∧ ∀ k : Nat, r[k]? = if off + i ≤ k ∧ k < off + i + l.length then l[k - (off + i)]? else c[k]? := by
  induction l with
  | nil => intro i c _; refine ⟨rfl, fun k => ?_⟩; rw [if_neg]; · rfl
           · simp
  | cons v l ih =>
    intro i c hl
    simp at hl
    have hi : off + i < c.size := by omega
    obtain ⟨h1, h2⟩ := ih (i + 1) (c.setIfInBounds (off + i) v) (by simp; omega)
    refine ⟨by simpa using h1, fun k => ?_⟩
    show ((l.zipIdx (i + 1)).foldl _ (c.setIfInBounds (off + i) v))[k]? = _
    rw [h2 k, Array.getElem?_setIfInBounds]
    by_cases e1 : k = off + i
    · subst e1
      rw [if_neg (by omega), if_pos rfl, if_pos hi, if_pos (by simp)]
      simp
    · by_cases e2 : off + i ≤ k ∧ k < off + i + (l.length + 1)
      · rw [if_pos (by omega), if_pos (by simpa using e2)]
        rw [show k - (off + i) = (k - (off + (i + 1))) + 1 by omega, List.getElem?_cons_succ]
      · rw [if_neg (by omega), if_neg (fun e => e1 e.symm), if_neg (by simpa using e2)]

def PRel (μ : Mu) (p : Nat × V) (q : Nat × Value) : Prop := p.1 = q.1 ∧ VRel μ p.2 q.2

theorem fill_ok {place : Nat → Option (Nat × Nat)} {ps : List (Nat × V)} {cs r : List S} {pv : List (Nat × Value)} {c : Array Value} (e : fill place ps cs = some r) (hp : All2 (PRel μ) ps pv)
    (hc : All2 (SRel μ) cs c.toList) : ∃ c', Instr.fill place c pv = some c' ∧ All2 (SRel μ) r c'.toList := by
  induction ps generalizing cs pv c with
  | nil =>
    cases e
    rw [hp.nil_left]
    exact ⟨c, rfl, hc⟩
  | cons p ps ih =>
    obtain ⟨q, pv, rfl, ⟨hq1, hq2⟩, hp⟩ := hp.cons_left
    obtain ⟨pl, h1, h2⟩ := ap_some (o := place p.1) (f := fun q => vCells p.2 none fun vs => gd (Nat.beq (lenl vs) q.2) (ap (lay cs q.1 vs) (fill place ps))) e
    obtain ⟨u, h3, h4⟩ := vCells_ne (d := none) h2 (by simp)
    obtain ⟨h5, h6⟩ := gd_some h4
    obtain ⟨cs', h7, h8⟩ := ap_some h6
    rw [Nat.beq_eq, lenl_eq] at h5
    rw [h3] at hq2
    have hx := URel.cells hq2
    have hlx := hx.length
    simp at hlx
    obtain ⟨l1, l2, _⟩ := lay_get h7
    have hlc := hc.length
    simp at hlc
    obtain ⟨k1, k2⟩ := foldl_set pl.1 q.2.cells.toList 0 c (by simp; omega)
    obtain ⟨c', h9, h10⟩ := ih (c := (q.2.cells.toList.zipIdx 0).foldl (fun (cs : Array Value) (p : Value × Nat) => cs.setIfInBounds (pl.1 + p.2) p.1) c) h8 hp
      (lay_all2 h7 hc hx k1 (by simpa using k2))
    refine ⟨c', ?_, h10⟩
    have hsz : q.2.cells.size = pl.2 ∧ pl.1 + q.2.cells.size ≤ c.size := ⟨by omega, by omega⟩
    obtain ⟨i, v⟩ := q
    have hi : i = p.1 := hq1.symm
    subst hi
    obtain ⟨off, size⟩ := pl
    simp only [Instr.fill, h1]
    rw [if_neg]
    · rw [← h9]
      congr 1
      rw [← Array.foldl_toList, Array.toList_zipIdx]
    · intro hh
      rw [Bool.or_eq_true, decide_eq_true_iff, decide_eq_true_iff] at hh
      exact hh.elim (fun h => h hsz.1) (fun h => absurd hsz.2 (Nat.not_le.2 h))

theorem zeroCells_len {zc : List S} {z : Value} (h : ∀ μ, All2 (SRel μ) zc z.cells.toList) : zc.length = z.cells.size := by
  have := (h fun _ => none).length
  simpa using this

theorem placesF_ok {fs : List Field} {pl : List (Nat × Nat)} (e : placesF P fs = some pl) : (fs.mapM fun f => (do pure (f.offset, ← sizeOf f.type) : Sem (Nat × Nat))).run P w = .ok pl w := by
  induction fs generalizing pl with
  | nil => cases e; rfl
  | cons f fs ih =>
    obtain ⟨q, h1, h2⟩ := ap_some (o := ap (sizeOf? P f.type) fun s => some (f.offset, s)) (f := fun y => ap (placesF P fs) fun ys => some (y :: ys)) e
    obtain ⟨s, h3, h4⟩ := ap_some h1
    obtain ⟨ys, h5, h6⟩ := ap_some h2
    cases h4
    cases h6
    rw [List.mapM_cons]
    simp only [Sem.run_bind, run_sizeOf' h3, Result.andThen_ok, Sem.run_pure, ih h5]

theorem build_ok {t : TypeId} {ps : List (Nat × V)} {r : V} {pv : Array (Nat × Value)} (e : build P t ps = some r) (hp : All2 (PRel μ) ps pv.toList) :
    ∃ rv, (Instr.build t pv).run P w = .ok rv w ∧ VRel μ r rv := by
  obtain ⟨zc, hz, h1⟩ := ap_some e
  obtain ⟨i, z, h2, h3, h4⟩ := zeroOf_some hz
  unfold Instr.build
  cases hf : fieldsOf P t with
  | none =>
    rw [hf] at h1
    obtain ⟨a, h5, h6⟩ := ap_some h1
    obtain ⟨s, h7, h8⟩ := ap_some h6
    obtain ⟨cs, h9, h10⟩ := ap_some h8
    cases h10
    obtain ⟨c', k1, k2⟩ := fill_ok h9 hp (h4 μ)
    have k1' : Instr.fill (fun i => some (i * s, s)) z.cells pv.toList = some c' := k1
    refine ⟨.agg c', ?_, c', rfl, k2⟩
    simp only [Sem.run_bind, run_zeroValue' h2 h3, Result.andThen_ok, run_underlying' (arrayOf_some h5), run_sizeOf' h7, k1', Sem.run_pure]
  | some fs =>
    rw [hf] at h1
    obtain ⟨pl, h5, h6⟩ := ap_some (o := placesF P fs) (f := fun pl => ap (fill (fun i => nth? pl i) ps zc) fun cs => some (agg cs)) h1
    obtain ⟨cs, h9, h10⟩ := ap_some h6
    cases h10
    obtain ⟨a, ha, rfl⟩ := fieldsOf_some hf
    have h9' : fill (fun i => pl.toArray[i]?) ps zc = some cs := by
      rw [← h9]; congr 1; funext i; simp
    obtain ⟨c', k1, k2⟩ := fill_ok h9' hp (h4 μ)
    refine ⟨.agg c', ?_, c', rfl, k2⟩
    have hm : (a.mapM fun f => (do pure (f.offset, ← sizeOf f.type) : Sem (Nat × Nat))).run P w = .ok pl.toArray w := by
      rw [Array.mapM_eq_mapM_toList, map_eq_pure_bind, Sem.run_bind, placesF_ok h5]
      rfl
    simp only [Sem.run_bind, run_zeroValue' h2 h3, Result.andThen_ok, run_underlying' ha, hm, k1, Sem.run_pure]

/-! ### rows of zeros -/

theorem reps_get (z : List S) (n : Nat) : (reps z n).length = n * z.length ∧ ∀ k, k < n * z.length → (reps z n)[k]? = z[k % z.length]? := by
  induction n with
  | zero => exact ⟨by show ([] : List S).length = 0 * z.length; simp, fun k hk => by omega⟩
  | succ n ih =>
    have e : reps z (n + 1) = z ++ reps z n := app_eq _ _
    rw [e]
    refine ⟨by simp [ih.1, Nat.succ_mul]; omega, fun k hk => ?_⟩
    rw [Nat.succ_mul] at hk
    rw [List.getElem?_append]
    by_cases h1 : k < z.length
    · rw [if_pos h1, Nat.mod_eq_of_lt h1]
    · rw [if_neg h1, ih.2 _ (by omega)]
      congr 1
      rw [Nat.mod_eq_sub_mod (by omega : k ≥ z.length)]

theorem reps_made {zc : List S} {z : Array Value} (hz : All2 (SRel μ) zc z.toList) (n : Nat) : All2 (SRel μ) (reps zc n) (madeCells z (n * z.size)).toList := by
  obtain ⟨h1, h2⟩ := reps_get zc n
  have hl := hz.length
  simp at hl
  apply All2.of_get
  · have e : (madeCells z (n * z.size)).toList.length = n * z.size := by rw [Array.length_toList, size_madeCells]
    rw [h1, e, hl]
  · intro k a b ha hb
    have hk : k < n * zc.length := by rw [← h1]; exact (List.getElem?_eq_some_iff.1 ha).1
    rw [h2 k hk] at ha
    have hk' : k < n * z.size := by rw [← hl]; exact hk
    have hb' : (madeCells z (n * z.size))[k]? = some b := by simpa using hb
    simp only [madeCells, Array.getElem?_map] at hb'
    rw [Array.getElem?_eq_getElem (by simpa using hk')] at hb'
    simp only [Array.getElem_range, Option.map_some, Option.some.injEq] at hb'
    obtain ⟨v, h3, h4⟩ := hz.get ha
    have h3' : z[k % z.size]? = some v := by rw [← hl]; simpa using h3
    have : z[k % z.size]! = v := by rw [getElem!_def, h3']
    rw [this] at hb'
    exact hb' ▸ h4

theorem madeCells_zero (z : Array Value) : madeCells z 0 = #[] := by simp [madeCells]

theorem buildSlice_ok {t : TypeId} {n : Nat} {ps : List (Nat × V)} {v : V} {pv : Array (Nat × Value)} (e : buildSlice P t n ps h = .val v h') (hp : All2 (PRel μ) ps pv.toList) :
    h.n < most ∧ ∃ o, h' = h.add o ∧ ∀ w, NewRes P μ h.n w (Instr.buildSlice t n pv) v o := by
  unfold buildSlice at e
  cases hq : (ap (sliceElem P t) fun e => ap (sizeOf? P e) fun s => ap (zeroOf P e) fun zc =>
    gd (Nat.ble (Nat.mul n s) 16777216) (gd (Nat.beq (lenl zc) s) (ap (fill (placeA s) ps (reps zc n)) fun cs => some (e, cs)))) with
  | none => rw [hq] at e; cases e
  | some p =>
    rw [hq] at e
    obtain ⟨h1, rfl, rfl⟩ := newRow_some e
    obtain ⟨el, h2, h3⟩ := ap_some hq
    obtain ⟨s, h4, h5⟩ := ap_some h3
    obtain ⟨zc, h6, h7⟩ := ap_some h5
    obtain ⟨h8, h9⟩ := gd_some h7
    obtain ⟨h10, h11⟩ := gd_some h9
    obtain ⟨cs, h12, h13⟩ := ap_some h11
    cases h13
    rw [ble_iff] at h8
    rw [Nat.beq_eq, lenl_eq] at h10
    have h8' : n * s ≤ 16777216 := h8
    obtain ⟨i, z, k1, k2, k3⟩ := zeroOf_some h6
    have hs : z.cells.size = s := by rw [← h10, zeroCells_len k3]
    have hmade : ∀ μ', All2 (SRel μ') (reps zc n) (madeCells z.cells (n * s)).toList := fun μ' => by
      have := reps_made (k3 μ') n
      rwa [hs] at this
    obtain ⟨c', g1, g2⟩ := fill_ok h12 hp (hmade μ)
    have hrun : ∀ w : World, (Instr.buildSlice t n pv).run P w = .ok (.slice (some ⟨w.heap.size, 0, none⟩) n n) (w.alloc (.cells c' el)) := by
      intro w
      unfold Instr.buildSlice
      have hbig : ¬ (n * s > 2 ^ 24) := by omega
      simp only [Sem.run_bind, run_underlying' (sliceElem_some h2), Result.andThen_ok, run_sizeOf' h4, hbig, if_false]
      have g1' : ∀ zero : Array Value, (if n * s = 0 then zero = #[] else zero = z.cells) → Instr.fill (fun i => some (i * s, s)) ((Array.range (n * s)).map (zero[· % zero.size]!)) pv.toList = some c' := by
        intro zero hz
        by_cases h0 : n * s = 0
        · have : Instr.fill (placeA s) (madeCells z.cells (n * s)) pv.toList = some c' := g1
          rw [h0, madeCells_zero] at this
          simp only [h0, Array.range_zero', Array.map_empty]
          exact this
        · rw [if_neg h0] at hz
          subst hz
          exact g1
      by_cases h0 : n * s = 0
      · have g := g1' #[] (by rw [if_pos h0])
        rw [if_pos h0]
        simp only [Sem.run_pure, Result.andThen_ok, Sem.run_bind, g, Go.newRow, run_newObj_alloc]
      · have g := g1' z.cells (by rw [if_neg h0])
        rw [if_neg h0]
        simp only [Sem.run_pure, Result.andThen_ok, Sem.run_bind, run_zeroValue' k1 k2, g, Go.newRow, run_newObj_alloc]
    have hcl : cs.length ≤ c'.size := by
      have := g2.length
      simp at this
      omega
    refine ⟨h1, _, rfl, fun w => newRes_row (hrun w) (fun μ' hle => (All2.cellsRel g2).mono hle) hcl fun μ' _ hn => ?_⟩
    exact ⟨_, _, n, hn, rfl, Nat.le_refl _, .inr rfl, rfl⟩

theorem makeSlice_ok {t : TypeId} {L C v : V} {lv cv : Value} (e : makeSlice P t L C h = .val v h') (hl : VRel μ L lv) (hc : VRel μ C cv) :
    h.n < most ∧ ∃ o, h' = h.add o ∧ ∀ w, NewRes P μ h.n w (Instr.makeSlice t lv cv) v o := by
  obtain ⟨kl, l, rfl, e2⟩ := vNat_ne (d := RO.bad) e (by simp)
  obtain ⟨kc, c, rfl, e3⟩ := vNat_ne (d := RO.bad) e2 (by simp)
  cases hq : (ap (sliceElem P t) fun e => ap (bytesOf? P e) fun b => ap (sizeOf? P e) fun s => ap (zeroOf P e) fun zc =>
    gd (Nat.ble (Nat.mul b c) 1048576) (gd (Nat.ble c 1048576) (gd (Nat.ble l c) (gd (Nat.beq (lenl zc) s) (some (e, reps zc c)))))) with
  | none => rw [hq] at e3; cases e3
  | some p =>
    rw [hq] at e3
    obtain ⟨h1, rfl, rfl⟩ := newRow_some e3
    obtain ⟨el, h2, h3⟩ := ap_some hq
    obtain ⟨b, h4, h5⟩ := ap_some h3
    obtain ⟨s, h6, h7⟩ := ap_some h5
    obtain ⟨zc, h8, h9⟩ := ap_some h7
    obtain ⟨g1, g2⟩ := gd_some h9
    obtain ⟨g3, g4⟩ := gd_some g2
    obtain ⟨g5, g6⟩ := gd_some g4
    obtain ⟨g7, g8⟩ := gd_some g6
    cases g8
    rw [ble_iff] at g1 g3 g5
    rw [Nat.beq_eq, lenl_eq] at g7
    have g1' : b * c ≤ 1048576 := g1
    obtain ⟨i, z, k1, k2, k3⟩ := zeroOf_some h8
    obtain ⟨i', k4, k5⟩ := bytesOf?_some h4
    obtain ⟨i'', k6, k7⟩ := sizeOf?_some h6
    rw [k1] at k4 k6; cases k4; cases k6
    cases one_rel hl
    cases one_rel hc
    have hb : (i.bytes : Int) * (c : Int) ≤ 281474976710656 := by
      have : ((i.bytes * c : Nat) : Int) ≤ 281474976710656 := by rw [k5]; omega
      rwa [Int.natCast_mul] at this
    have hrun := fun w : World => run_make (P := P) w t el i z (sliceElem_some h2) k1 k2 kl kc (l : Int) (c : Int) (by omega) (by omega) hb (by omega)
    simp only [Int.toNat_natCast] at hrun
    have hs : z.cells.size = s := by rw [← g7, zeroCells_len k3]
    have hmade : ∀ μ', All2 (SRel μ') (reps zc c) (madeCells z.cells (c * i.size)).toList := fun μ' => by
      have := reps_made (k3 μ') c
      rwa [hs, ← k7] at this
    refine ⟨h1, _, rfl, fun w => newRes_row (hrun w) (fun μ' _ => (All2.cellsRel (hmade μ'))) (by have := (hmade μ).length; simp at this; simp; omega) fun μ' _ hn => ?_⟩
    exact ⟨_, _, c, hn, rfl, g5, .inr rfl, rfl⟩

end

end Go.Sx
