/-
  SOUNDNESS OF THE ABSTRACT INTERPRETER, thirteenth part: conversions, strings seen through unsafe.
-/
import Derived.Test.YtechbpephhdmpaaGreatDoorB12
import Derived.Lib.Builder
import Derived.Laws.BytesString
namespace Go.Sx

section
variable {P : Program} {w : World} {μ : Mu} {h h' : H}

theorem modify_push (a : Array Obj) (o : Obj) (f : Obj → Obj) : (a.push o).modify a.size f = a.push (f o) := by
  apply Array.ext_getElem?
  intro k
  rw [Array.getElem?_modify, Array.getElem?_push, Array.getElem?_push]
  by_cases e : a.size = k
  · subst e; simp
  · rw [if_neg e]
    have : ¬ k = a.size := fun h => e h.symm
    simp [this]

theorem toBytes_ok {t src dst : TypeId} {s : List Nat} {v : V} (e : toBytes P t s h = .val v h') (hs : isStr P src = true) (hd : sliceElem P dst = some t) :
    h.n < most ∧ ∃ o, h' = h.add o ∧ ∀ w, NewRes P μ h.n w (Go.convert src dst (strV s)) v o := by
  unfold toBytes at e
  cases hu : isU8 P t with
  | false => rw [hu] at e; cases e
  | true =>
  rw [hu] at e
  obtain ⟨h1, rfl, rfl⟩ := newRow_some (f := fun i => S.slc i 0 (lenl s) (.op 1)) e
  refine ⟨h1, _, rfl, fun w => ?_⟩
  have hcut : Question.cut (.appendCap (bytesOf s).size 0 t) (w.tape w.drawn (.appendCap (bytesOf s).size 0 t)) ≥ s.length := by
    simp only [Question.cut, bytesOf_size]; omega
  generalize hcap : Question.cut (.appendCap (bytesOf s).size 0 t) (w.tape w.drawn (.appendCap (bytesOf s).size 0 t)) = cap at hcut
  let c : Array Value := ((bytesOf s).data.map fun (b : UInt8) => (Value.int .u8 b.toNat)) ++ Array.replicate (cap - (bytesOf s).size) (Value.int .u8 0)
  have hsz : c.size = cap := by
    show (((bytesOf s).data.map fun (b : UInt8) => (Value.int .u8 b.toNat)) ++ Array.replicate (cap - (bytesOf s).size) (Value.int .u8 0)).size = cap
    rw [Array.size_append, Array.size_map, Array.size_replicate]
    have : (bytesOf s).data.size = s.length := bytesOf_size s
    rw [this, bytesOf_size]
    omega
  have hrun : (Go.convert src dst (strV s)).run P w = .ok (.slice (some ⟨w.heap.size, 0, none⟩) s.length cap) { w.alloc (.cells c t (cap, cap + 1)) with drawn := w.drawn + 1 } := by
    have hc : (Conv.stringToBytes t (bytesOf s)).run P w = .ok (.slice (some ⟨w.heap.size, 0, none⟩) s.length cap) { w.alloc (.cells c t (cap, cap + 1)) with drawn := w.drawn + 1 } := by
      have hshape : (w.drew.alloc (.cells c t)).shape? w.heap.size = some (t, c.size) := by
        show (match (w.heap.push (Obj.cells c t))[w.heap.size]? with | some (.cells c elem _) => some (elem, c.size) | _ => none) = _
        simp
      have hfr : (w.drew.alloc (.cells c t)).freeze ⟨w.heap.size, cap, none⟩ 1 = { w.alloc (.cells c t (cap, cap + 1)) with drawn := w.drawn + 1 } := by
        unfold World.freeze
        rw [if_neg (by decide)]
        show World.mk ((w.heap.push (Obj.cells c t)).modify w.heap.size _) _ _ _ _ = World.mk (w.heap.push _) _ _ _ _
        rw [modify_push]
        rfl
      simp only [Conv.stringToBytes, Sem.run_bind, run_choose_drew, Question.forced, Bool.false_eq_true, if_false, Result.andThen_ok, hcap, Go.newRow, run_newObj_alloc, Sem.run_pure, markStringish, run_shape]
      show Result.andThen (Sem.run P (match World.shape? (w.drew.alloc (.cells c t)) w.heap.size with | some (_, n) => freeze { block := w.heap.size, off := n } 1 | _ => pure ()) (w.drew.alloc (.cells c t))) _ = _
      rw [hshape, hsz]
      show Result.ok _ ((w.drew.alloc (.cells c t)).freeze ⟨w.heap.size, cap, none⟩ 1) = _
      rw [hfr, bytesOf_size]
      rfl
    simp only [Go.convert, Sem.run_bind, run_underlying' (isStr_true hs), run_underlying' (sliceElem_some hd), Result.andThen_ok, strV_eq, run_underlying' (isU8_true hu)]
    exact hc
  refine ⟨_, cap, _, 1, hrun, fun μ' w' hle hn hw => ⟨⟨_, _, cap, hn, by rw [lenl_eq], by rw [lenl_eq]; exact hcut, .inr rfl, by show cap * 1 + 0 = cap; omega⟩, c, _, hw, ?_, ?_, by rw [hsz]; exact Nat.le_refl _, fun _ => ?_⟩⟩
  · intro k y hk
    obtain ⟨u, h2, h3⟩ := (All2.cellsRel (bytesS_rel (μ := μ') s)) k y hk
    refine ⟨u, ?_, h3⟩
    show (((bytesOf s).data.map fun (b : UInt8) => (Value.int .u8 b.toNat)) ++ Array.replicate (cap - (bytesOf s).size) (Value.int .u8 0))[k]? = _
    rw [Array.getElem?_append, if_pos (Array.getElem?_eq_some_iff.1 h2).1]
    exact h2
  · show (bytesS s).length ≤ cap
    have := (bytesS_rel (μ := μ) s).length
    simp [bytesOf] at this
    omega
  · intro k hk
    rw [hsz] at hk
    show ¬ (cap ≤ k ∧ k < cap + 1)
    omega

theorem bytes_some {cs : List S} {bs : List Nat} {vs : List Value} (e : mapo byteOf cs = some bs) (hv : All2 (SRel μ) cs vs) : vs = bs.map (fun (n : Nat) => (Value.int .u8 (n : Int))) ∧ ∀ n ∈ bs, n < 256 := by
  induction cs generalizing bs vs with
  | nil => cases e; rw [hv.nil_left]; simp
  | cons c cs ih =>
    obtain ⟨x, vs, rfl, h1, h2⟩ := hv.cons_left
    obtain ⟨n, h3, h4⟩ := ap_some (o := byteOf c) (f := fun y => ap (mapo byteOf cs) fun ys => some (y :: ys)) e
    obtain ⟨ns, h5, h6⟩ := ap_some h4
    cases h6
    obtain ⟨i1, i2⟩ := ih h5 h2
    obtain ⟨k, m, rfl, h7⟩ := sInt_ne (d := none) h3 (by simp)
    obtain ⟨h8, h9⟩ := gd_some h7
    rw [eqK_true h8] at h1
    cases m with
    | negSucc m => cases h9
    | ofNat m =>
      obtain ⟨h10, h11⟩ := gd_some (b := Nat.blt m 256) (x := some m) h9
      cases h11
      rw [Nat.blt_eq] at h10
      cases h1
      refine ⟨by rw [i1]; rfl, fun q hq => ?_⟩
      rcases List.mem_cons.1 hq with rfl | hq
      · exact h10
      · exact i2 q hq

theorem foldl_push (l : List Nat) (b : ByteArray) : (l.map fun (n : Nat) => (n : Int)).foldl (fun (r : ByteArray) (n : Int) => r.push (UInt8.ofNat n.toNat)) b = ⟨b.data ++ (l.map UInt8.ofNat).toArray⟩ := by
  induction l generalizing b with
  | nil => simp
  | cons n l ih =>
    rw [List.map_cons, List.foldl_cons, ih]
    apply ByteArray.ext
    simp [ByteArray.push]

theorem ofBytes_ok (hr : HRel μ h w) {t src dst : TypeId} {x : S} {xv : Value} {v : V} (e : ofBytes P t x h = .val v h') (hs : sliceElem P src = some t) (hd : isStr P dst = true) (hx : SRel μ x xv) :
    h' = h ∧ ∃ rv, (Go.convert src dst xv).run P w = .ok rv w ∧ VRel μ v rv := by
  unfold ofBytes at e
  cases hu : isU8 P t with
  | false => rw [hu] at e; cases e
  | true =>
  rw [hu] at e
  have conv : ∀ y : Value, (∀ s, y ≠ .string s) → (∀ k n, y ≠ .int k n) → (Go.convert src dst y).run P w = (Conv.bytesToString y).run P w := by
    intro y h1 h2
    simp only [Go.convert, Sem.run_bind, run_underlying' (isStr_true hd), run_underlying' (sliceElem_some hs), Result.andThen_ok]
    cases y <;> first
      | (simp only [run_underlying' (isU8_true hu), Result.andThen_ok]; done)
      | exact absurd rfl (h1 _)
      | exact absurd rfl (h2 _ _)
  rcases sSlc_ne (d := RO.bad) e (by simp) with ⟨rfl, e2⟩ | ⟨i, o, n, c, rfl, e2⟩
  · cases e2
    cases hx
    refine ⟨rfl, .string .empty, ?_, ?_⟩
    · rw [conv _ (by simp) (by simp)]; rfl
    · rfl
  · obtain ⟨ty, cs, fz, hg, e3⟩ := H.get_ne (d := RO.bad) e2 (by simp)
    cases hq : ap (sub? cs o n) (mapo byteOf) with
    | none => rw [hq] at e3; cases e3
    | some bs =>
    rw [hq] at e3
    cases e3
    obtain ⟨cells, h1, h2⟩ := ap_some hq
    obtain ⟨m, a, cap, hm, rfl, hlc, ha, _⟩ := hx
    obtain ⟨vs, k1, k2, k3⟩ := loadCells_ok (P := P) (a := a) hr hm hg h1 (by
      rcases ha with ha | ha
      · left; omega
      · exact .inr ha)
    obtain ⟨i1, _⟩ := bytes_some h2 k1
    refine ⟨rfl, .string (bytesOf bs), ?_, rfl⟩
    rw [conv _ (by simp) (by simp)]
    have hl := k3 w rfl
    have e4 : vs.toArray = ((bs.map fun (n : Nat) => (n : Int)).map (Value.int .u8)).toArray := by rw [i1, List.map_map]; rfl
    rw [e4] at hl
    rw [run_bytesToString w a n cap _ hl, foldl_push, show (ByteArray.empty.data : Array UInt8) = #[] from rfl, Array.empty_append]
    rfl

/-! ### pointers through unsafe.Pointer -/

theorem cellsOf_some {t : TypeId} {n : Nat} (h : sizeOf? P t = some n) : P.cellsOf t = n := by
  obtain ⟨i, h1, h2⟩ := sizeOf?_some h
  unfold Program.cellsOf
  rw [show P.info? t = some i from h1]
  exact h2

theorem liesAt_head {e : TypeId} {s count : Nat} (hs : P.cellsOf e = s) (h0 : s ≠ 0) (n : Nat) (hn : n * s ≤ count) : liesAt P P.depth e (count / s) 0 e n = true := by
  have hd : P.depth = (2 * (P.types.size + Made.depth) + 1) + 1 := rfl
  rw [hd]
  simp only [liesAt, Bool.or_eq_true]
  left
  rw [hd]
  have : n ≤ count / s := (Nat.le_div_iff_mul_le (Nat.pos_of_ne_zero h0)).2 hn
  simp [rowAt, hs, h0, this, sameLayout]

theorem convPtr_ok (hr : HRel μ h w) {s d : TypeId} {x : S} {xv : Value} {v : V} (e : convPtr P s d x h = .val v h') (hx : SRel μ x xv) : h' = h ∧ ∃ rv, (Go.convert s d xv).run P w = .ok rv w ∧ VRel μ v rv := by
  have ptr : ∀ f : Nat → Nat → TypeId → List S → Bool, ptrIn x h f = .val v h' → ∃ i o e cs fz, x = .ptr i o ∧ h.get i = .row e cs fz ∧ f i o e cs = true ∧ v = one (.ptr i o) ∧ h' = h := by
    intro f hp
    rcases sPtr_ne' (d := RO.bad) hp (by simp) with ⟨rfl, hp2⟩ | ⟨i, o, rfl, hp2⟩
    · cases hp2
    · obtain ⟨t0, cs, fz, hg, hp3⟩ := H.get_ne (d := RO.bad) hp2 (by simp)
      cases hf : f i o t0 cs with
      | false => rw [hf] at hp3; cases hp3
      | true => rw [hf] at hp3; cases hp3; exact ⟨i, o, t0, cs, fz, rfl, hg, hf, rfl, rfl⟩
  unfold convPtr at e
  cases hd : isUns P d with
  | true =>
    rw [hd] at e
    obtain ⟨i, o, t, cs, fz, rfl, hg, hf, rfl, rfl⟩ := ptr _ e
    obtain ⟨m, hm, rfl⟩ := hx
    obtain ⟨c, fr, r1, r2, r3, r4, _⟩ := hr.row hm hg
    unfold ptrOut at hf
    cases hp : ptrTo P s with
    | none => rw [hp] at hf; cases hf
    | some u =>
    rw [hp] at hf
    cases hn : sizeOf? P u with
    | none => simp only [hn] at hf; cases hf
    | some n =>
    simp only [hn] at hf
    have hf' : andb (notb (Nat.beq n 0)) (Nat.blt o (lenl cs)) = true := hf
    rw [andb_eq, notb_eq, Bool.and_eq_true, Nat.blt_eq, lenl_eq] at hf'
    obtain ⟨j, j1, j2⟩ := sizeOf?_some hn
    have hn0 : j.size ≠ 0 := by rintro h0; rw [h0] at j2; subst j2; simp at hf'
    exact ⟨rfl, _, Go.Lib.run_to_unsafe w ⟨m.b, o, none⟩ (ptrTo_some hp) (isUns_true hd) j1 hn0 (shape_row r1) (by show o < c.size; omega), m, hm, rfl⟩
  | false =>
    rw [hd] at e
    cases hs : isUns P s with
    | false => rw [hs] at e; cases e
    | true =>
    rw [hs] at e
    obtain ⟨i, o, t, cs, fz, rfl, hg, hf, rfl, rfl⟩ := ptr _ e
    obtain ⟨m, hm, rfl⟩ := hx
    obtain ⟨c, fr, r1, r2, r3, r4, _⟩ := hr.row hm hg
    unfold ptrBack at hf
    cases hp : ptrTo P d with
    | none => rw [hp] at hf; cases hf
    | some u =>
    rw [hp] at hf
    cases hn : sizeOf? P u with
    | none => simp only [hn] at hf; cases hf
    | some n =>
    simp only [hn] at hf
    have hf' : andb (andb (notb (Nat.beq n 0)) (Nat.ble n (lenl cs))) (andb (Nat.beq u t) (Nat.beq o 0)) = true := hf
    rw [andb_eq, andb_eq, andb_eq, notb_eq, Bool.and_eq_true, Bool.and_eq_true, Bool.and_eq_true, ble_iff, lenl_eq, Nat.beq_eq, Nat.beq_eq] at hf'
    obtain ⟨⟨f1, f2⟩, f3, f4⟩ := hf'
    have f3' : u = t := f3
    subst f3'
    subst f4
    obtain ⟨j, j1, j2⟩ := sizeOf?_some hn
    have hn0 : n ≠ 0 := by rintro rfl; simp at f1
    have hl := liesAt_head (count := c.size) (cellsOf_some hn) hn0 1 (by omega)
    exact ⟨rfl, _, Go.Lib.run_from_unsafe w ⟨m.b, 0, none⟩ (isUns_true hs) (ptrTo_some hp) j1 (shape_row r1) (by rw [cellsOf_some hn]; exact hl), m, hm, rfl⟩

/-! ### convert -/

theorem isStr_notInt {t : TypeId} (h : isStr P t = true) (k : IntKind) : P.underlying t ≠ some (.int k) := by
  rw [isStr_true h]; simp

/-- what converting comes to: a new object; a value, whatever the memory; a value that the memory tells -/
theorem convert_ok {s d : TypeId} {X v : V} {xv : Value} (e : Sx.convert P s d X h = .val v h') (hx : VRel μ X xv) :
    ((sliceElem P d).isSome = true ∧ h.n < most ∧ ∃ o, h' = h.add o ∧ ∀ w, NewRes P μ h.n w (Go.convert s d xv) v o) ∨
    (sliceElem P d = none ∧ h' = h ∧ ∀ w, ∃ rv, (Go.convert s d xv).run P w = .ok rv w ∧ VRel μ v rv) ∨
    (sliceElem P d = none ∧ ((sliceElem P s).isSome = true ∨ (isUns P s || isUns P d) = true) ∧ ∀ w, HRel μ h w → h' = h ∧ ∃ rv, (Go.convert s d xv).run P w = .ok rv w ∧ VRel μ v rv) := by
  unfold Sx.convert at e
  cases hk : known P s with
  | false => rw [hk] at e; cases e
  | true =>
  rw [hk] at e
  obtain ⟨x, rfl, e2⟩ := vS_ne (d := RO.bad) e (by simp)
  have hx' := one_rel hx
  obtain ⟨ds, hds⟩ := known_true hk
  have noslc : ∀ dd, P.underlying d = some dd → (∀ el, dd ≠ .slice el) → sliceElem P d = none := by
    intro dd h1 h2
    cases hq : sliceElem P d with
    | none => rfl
    | some el => rw [sliceElem_some hq] at h1; cases h1; exact absurd rfl (h2 _)
  unfold convS at e2
  by_cases hi : ∃ k n, x = .int k n
  · obtain ⟨k0, n, rfl⟩ := hi
    have e3 : (Option.casesOn (intK P d) .bad (fun k => .val (int k (wrapK k n)) h) : RO) = .val v h' := e2
    cases hd : intK P d with
    | none => rw [hd] at e3; cases e3
    | some k =>
    rw [hd] at e3
    cases e3
    cases hx'
    refine .inr (.inl ⟨noslc _ (intK_some hd) (by simp), rfl, fun w => ⟨.int k (k.wrap n), ?_, ?_⟩⟩)
    · simp only [Go.convert, Sem.run_bind, run_underlying' hds, run_underlying' (intK_some hd), Result.andThen_ok, Conv.intToInt]
      cases ds <;> rfl
    · rw [wrapK_eq]; exact VRel.int k _
  · by_cases hs : ∃ b, x = .str b
    · obtain ⟨b, rfl⟩ := hs
      have e3 : (Bool.casesOn (isStr P s) .bad (Option.casesOn (sliceElem P d) (Bool.casesOn (isStr P d) .bad (.val (one (.str b)) h)) (fun e => toBytes P e b h)) : RO) = .val v h' := e2
      cases hss : isStr P s with
      | false => rw [hss] at e3; cases e3
      | true =>
      rw [hss] at e3
      cases hx'
      cases hd : sliceElem P d with
      | some t =>
        rw [hd] at e3
        have e4 : toBytes P t b h = .val v h' := e3
        left
        obtain ⟨h1, o, h2, h3⟩ := toBytes_ok (μ := μ) e4 hss hd
        exact ⟨rfl, h1, o, h2, h3⟩
      | none =>
        rw [hd] at e3
        cases hsd : isStr P d with
        | false => rw [hsd] at e3; cases e3
        | true =>
        rw [hsd] at e3
        cases e3
        refine .inr (.inl ⟨rfl, rfl, fun w => ⟨strV b, ?_, rfl⟩⟩)
        simp only [Go.convert, Sem.run_bind, run_underlying' (isStr_true hss), run_underlying' (isStr_true hsd), Result.andThen_ok, strV_eq]
        rfl
    · have e3 : (Bool.casesOn (isStr P d) (convPtr P s d x h) (Option.casesOn (sliceElem P s) .bad (fun e => ofBytes P e x h)) : RO) = .val v h' := by
        cases x <;> first
          | exact e2
          | exact absurd ⟨_, _, rfl⟩ hi
          | exact absurd ⟨_, rfl⟩ hs
      cases hsd : isStr P d with
      | false =>
        rw [hsd] at e3
        have e4 : convPtr P s d x h = .val v h' := e3
        right; right
        have e5 := e4
        unfold convPtr at e5
        cases hd : isUns P d with
        | true => exact ⟨noslc _ (isUns_true hd) (by simp), .inr (by simp), fun w hr => convPtr_ok hr e4 hx'⟩
        | false =>
          rw [hd] at e5
          cases hs' : isUns P s with
          | false => rw [hs'] at e5; cases e5
          | true =>
            rw [hs'] at e5
            refine ⟨?_, .inr (by simp), fun w hr => convPtr_ok hr e4 hx'⟩
            have e6 : ptrIn x h (fun _ o e cs => ptrBack P d o e cs) = .val v h' := e5
            rcases sPtr_ne' (d := RO.bad) e6 (by simp) with ⟨rfl, hp2⟩ | ⟨i, o, rfl, hp2⟩
            · cases hp2
            · obtain ⟨t0, cs, fz, hg, hp3⟩ := H.get_ne (d := RO.bad) hp2 (by simp)
              unfold ptrBack at hp3
              cases hp : ptrTo P d with
              | none => simp only [hp] at hp3; cases hp3
              | some u => exact noslc _ (ptrTo_some hp) (by simp)
      | true =>
        rw [hsd] at e3
        cases hse : sliceElem P s with
        | none => rw [hse] at e3; cases e3
        | some t =>
          rw [hse] at e3
          exact .inr (.inr ⟨noslc _ (isStr_true hsd) (by simp), .inl rfl, fun w hr => ofBytes_ok hr e3 hse hsd hx'⟩)

end

end Go.Sx
