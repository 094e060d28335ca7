/-
  SOUNDNESS OF THE ABSTRACT INTERPRETER, sixth part: the operations that do not touch memory.
-/
import Derived.Test.YtechbpephhdmpaaGreatDoorB5
namespace Go.Sx

section
variable {P : Program} {w : World} {μ : Mu}

theorem one_rel {x : S} {v : Value} (h : VRel μ (one x) v) : SRel μ x v := h
theorem ptr_rel {i o : Nat} {v : Value} (h : VRel μ (one (.ptr i o)) v) : ∃ m, μ i = some m ∧ v = .pointer (some ⟨m.b, o, none⟩) := h

theorem binS_eq (x : S) (hi : ∀ k n, x ≠ .int k n) (hs : ∀ s, x ≠ .str s) {xv : Value} (hx : SRel μ x xv) (yv : Value) (t : TypeId) (o : BinOp) (ho : o = .eql ∨ o = .neq) :
    binOp o t xv yv = if o = .eql then (do pure (.bool (← Op.equal t xv yv))) else (do pure (.bool (!(← Op.equal t xv yv)))) := by
  cases x <;> simp only [SRel, ptrV] at hx <;> first
    | (exact absurd rfl (hi _ _))
    | (exact absurd rfl (hs _))
    | (subst hx; rcases ho with rfl | rfl <;> simp [binOp]; done)
    | (obtain ⟨m, _, rfl⟩ := hx; rcases ho with rfl | rfl <;> simp [binOp]; done)
    | (obtain ⟨m, a, cap, _, rfl, _⟩ := hx; rcases ho with rfl | rfl <;> simp [binOp]; done)
    | (obtain ⟨m, a, rfl, _⟩ := hx; rcases ho with rfl | rfl <;> simp [binOp]; done)

theorem guardS {x : S} {xv yv : Value} (hx : SRel μ x xv) (hn : x ≠ .nili) (op : BinOp) (t : TypeId) (a b : Operand) : eqGuard op t a b xv yv = pure () := by
  cases x <;> simp only [SRel, strV, ptrV] at hx <;> first
    | (exact absurd rfl hn)
    | (subst hx; cases op <;> rfl)
    | (obtain ⟨m, _, rfl⟩ := hx; cases op <;> rfl)
    | (obtain ⟨m, c, cap, _, rfl, _⟩ := hx; cases op <;> rfl)
    | (obtain ⟨m, c, rfl, _⟩ := hx; cases op <;> rfl)

theorem binV_ok {op : BinOp} {t : TypeId} {X Y r : V} {xv yv : Value} (xo yo : Operand) (h : binV P op t X Y = some r) (hx : VRel μ X xv) (hy : VRel μ Y yv) :
    ∃ rv, (do eqGuard op t xo yo xv yv; binOp op t xv yv).run P w = .ok rv w ∧ VRel μ r rv := by
  obtain ⟨x, rfl, g1⟩ := vU_ne h (by simp)
  obtain ⟨y, rfl, g⟩ := vU_ne g1 (by simp)
  clear h g1
  have h := g
  clear g
  cases x with
  | s x => cases y with
    | agg ys => cases h
    | s y =>
      have hx' : SRel μ x xv := hx
      have hy' : SRel μ y yv := hy
      have h' : binS P op t x y = some r := h
      unfold binS at h'
      by_cases hi : ∃ k n, x = .int k n
      · obtain ⟨k, n, rfl⟩ := hi
        obtain ⟨l, b, rfl, h2⟩ := sInt_ne (d := none) (f := fun l b => intOp op k n l b) h' (by simp)
        rw [guardS hx' (by simp)]
        cases hx'; cases hy'
        obtain ⟨rv, h3, h4⟩ := intOp_ok (P := P) (w := w) (μ := μ) (t := t) h2
        exact ⟨rv, by simpa using h3, h4⟩
      · by_cases hs : ∃ s, x = .str s
        · obtain ⟨s, rfl⟩ := hs
          obtain ⟨b, rfl, h2⟩ := sStr_ne (d := none) (f := fun b => strBin op s b) h' (by simp)
          rw [guardS hx' (by simp)]
          cases hx'; cases hy'
          obtain ⟨rv, h3, h4⟩ := strBin_ok (P := P) (w := w) (μ := μ) (t := t) h2
          exact ⟨rv, by simpa using h3, h4⟩
        · have h2 : binO P op t (.s x) (.s y) = some r := by
            cases x <;> first
              | exact h'
              | exact absurd ⟨_, _, rfl⟩ hi
              | exact absurd ⟨_, rfl⟩ hs
          have hn : x ≠ .nili := by
            rintro rfl
            unfold binO at h2
            cases e : eqlNo op with
            | zero => rw [e] at h2; cases h2
            | succ n =>
              rw [e] at h2
              obtain ⟨b, h3, _⟩ := ap_some (o := eqU P t (.s .nili) (.s y)) h2
              cases h3
          obtain ⟨_, rv, h3, h4⟩ := binO_ok (w := w) h2 hx hy fun o ho => binS_eq x (fun k n e => hi ⟨k, n, e⟩) (fun s e => hs ⟨s, e⟩) hx' yv t o ho
          rw [guardS hx' hn]
          exact ⟨rv, by simpa using h3, h4⟩
  | agg xs =>
    have h' : gd (notb (P.eqGuardType P.depth t)) (binO P op t (.agg xs) y) = some r := by cases y <;> exact h
    obtain ⟨hg, h2⟩ := gd_some h'
    have hg' : P.eqGuardType P.depth t = false := by simpa using hg
    have hy0 : ∃ ys, y = .agg ys := by
      unfold binO at h2
      cases e : eqlNo op with
      | zero => rw [e] at h2; cases h2
      | succ n =>
        rw [e] at h2
        obtain ⟨b, h3, _⟩ := ap_some (o := eqU P t (.agg xs) y) h2
        cases y with
        | s y => cases h3
        | agg ys => exact ⟨ys, rfl⟩
    obtain ⟨ys, rfl⟩ := hy0
    have hx0 := hx
    have hy1 := hy
    obtain ⟨cx, rfl, _⟩ := hx0
    obtain ⟨cy, rfl, _⟩ := hy1
    obtain ⟨_, rv, h3, h4⟩ := binO_ok (w := w) h2 hx hy fun o ho => by rcases ho with rfl | rfl <;> simp [binOp]
    refine ⟨rv, ?_, h4⟩
    rw [Sem.run_bind, run_eqGuard_agg w op t xo yo cx cy hg']
    exact h3

theorem unV_ok {op : UnOp} {X r : V} {xv : Value} (h : unV op X = some r) (hx : VRel μ X xv) : ∃ rv, (Op.unary op xv).run P w = .ok rv w ∧ VRel μ r rv := by
  cases op with
  | plus => cases h
  | neg =>
    obtain ⟨k, n, rfl, g⟩ := vInt_ne (d := none) h (by simp)
    cases one_rel hx
    have h' : some (int k (wrapK k (Int.sub (Int.ofNat 0) n))) = some r := g
    exact intArm h' (by rw [wrapK_eq]; rfl)
  | xor =>
    obtain ⟨k, n, rfl, g⟩ := vInt_ne (d := none) h (by simp)
    cases one_rel hx
    have h' : some (bitF Nat.xor k (Int.negSucc 0) n) = some r := g
    rw [bitF_xor] at h'
    refine intArm h' ?_
    cases k <;> rfl
  | not =>
    obtain ⟨b, rfl, g⟩ := vBool_ne (d := none) h (by simp)
    cases one_rel hx
    exact boolArm g (by rw [notb_eq]; rfl)

theorem mkPtr_eq (i o : Nat) : mkPtr i o = some (one (.ptr i o)) := rfl

theorem fieldAddr_ok {s : TypeId} {X r : V} {f : Nat} {xv : Value} (h : fieldAddr P s X f = some r) (hx : VRel μ X xv) :
    ∃ rv, (Instr.fieldAt s xv f).run P w = .ok rv w ∧ VRel μ r rv := by
  obtain ⟨fs, h1, h2⟩ := ap_some h
  obtain ⟨fl, h3, h4⟩ := ap_some h2
  obtain ⟨n, h5, h6⟩ := ap_some h4
  obtain ⟨a, ha, rfl⟩ := fieldsOf_some h1
  cases n with
  | zero => cases h6
  | succ n =>
    obtain ⟨i, o, rfl, h7⟩ := vPtr_ne (d := none) h6 (by simp)
    obtain ⟨m, hm, rfl⟩ := ptr_rel hx
    cases h7
    rw [nth?_eq] at h3
    have h3' : a[f]? = some fl := by simpa using h3
    have hne : ¬ (n + 1 = 0) := by omega
    refine ⟨.pointer (some ⟨m.b, o + fl.offset, none⟩), ?_, m, hm, ?_⟩
    · simp only [Instr.fieldAt, Sem.run_bind, run_underlying' ha, Result.andThen_ok, h3', Instr.sureAddr, Sem.run_pure, fieldPlace, run_sizeOf' h5, hne, if_false, Addr.add_lit]
    · simp [ptrV]

theorem field_ok {t : TypeId} {X r : V} {f : Nat} {xv : Value} (h : field P t X f = some r) (hx : VRel μ X xv) :
    ∃ rv, (Instr.field t xv f).run P w = .ok rv w ∧ VRel μ r rv := by
  obtain ⟨fs, h1, h2⟩ := ap_some h
  obtain ⟨fl, h3, h4⟩ := ap_some h2
  obtain ⟨a, ha, rfl⟩ := fieldsOf_some h1
  obtain ⟨l, rfl, h5⟩ := vAgg_ne (d := none) h4 (by simp)
  obtain ⟨cs, rfl, hc⟩ := hx
  rw [nth?_eq] at h3
  have h3' : a[f]? = some fl := by simpa using h3
  obtain ⟨v, h6, h7⟩ := part?_ok (w := w) h5 hc
  exact ⟨v, by simp [Instr.field, run_underlying' ha, h3', asAgg, h6], h7⟩

theorem elemAt_some {s len i o n : Nat} {r : V} (h : elemAt s len i o n = some r) : n < len ∧ r = one (.ptr i (o + n * s)) := by
  obtain ⟨h1, h2⟩ := gd_some (x := mkPtr i (Nat.add o (Nat.mul n s))) h
  rw [Nat.blt_eq] at h1
  cases h2
  exact ⟨h1, rfl⟩

theorem index_lit (n len : Nat) (h : n < len) : (0 ≤ Int.ofNat n ∧ Int.ofNat n < (len : Int)) := ⟨by simp, by show (n : Int) < len; omega⟩

theorem indexAddr_ok {t : TypeId} {X I r : V} {xv iv : Value} (h : indexAddr P t X I = some r) (hx : VRel μ X xv) (hi : VRel μ I iv) :
    ∃ rv, (Instr.indexAt t xv iv).run P w = .ok rv w ∧ VRel μ r rv := by
  obtain ⟨k, n, rfl, g1⟩ := vNat_ne (d := none) h (by simp)
  obtain ⟨x, rfl, g⟩ := vS_ne (d := none) g1 (by simp)
  clear h g1
  have h := g
  clear g
  cases one_rel hi
  cases e : sliceElem P t with
  | none =>
    rw [e] at h
    obtain ⟨a, h1, h2⟩ := ap_some h
    obtain ⟨s, h3, h4⟩ := ap_some h2
    obtain ⟨i, o, rfl, h5⟩ := sPtr_ne (d := none) h4 (by simp)
    obtain ⟨hl, rfl⟩ := elemAt_some h5
    obtain ⟨m, hm, rfl⟩ := ptr_rel hx
    refine ⟨.pointer (some ⟨m.b, o + n * s, none⟩), ?_, m, hm, by simp [ptrV]⟩
    have hli := index_lit n a.1 hl
    simp only [Instr.indexAt, Sem.run_bind, asIntOf, Sem.run_pure, Result.andThen_ok, run_underlying' (arrayOf_some h1), Instr.sureAddr, hli, and_self, if_true, run_sizeOf' h3, Addr.add_lit]
    simp
  | some el =>
    rw [e] at h
    obtain ⟨s, h3, h4⟩ := ap_some h
    rcases sSlc_ne (n := none) h4 (by simp) with ⟨rfl, h5⟩ | ⟨i, o, len, c, rfl, h5⟩
    · cases h5
    · obtain ⟨hl, rfl⟩ := elemAt_some h5
      obtain ⟨m, a, cap, hm, rfl, hlc, ha, _⟩ := one_rel hx
      rcases ha with hc | rfl
      · omega
      · refine ⟨.pointer (some ⟨m.b, o + n * s, none⟩), ?_, m, hm, by simp [ptrV]⟩
        have hli := index_lit n len hl
        simp only [Instr.indexAt, Sem.run_bind, asIntOf, Sem.run_pure, Result.andThen_ok, run_underlying' (sliceElem_some e), hli, and_self, if_true, run_sizeOf' h3, Addr.add_lit]
        simp

theorem byteS_eq (n : Nat) : byteS n = .int .u8 (.ofNat (n % 256)) := rfl

theorem index_ok {t : TypeId} {X I r : V} {xv iv : Value} (h : index P t X I = some r) (hx : VRel μ X xv) (hi : VRel μ I iv) :
    ∃ rv, (Instr.index t xv iv).run P w = .ok rv w ∧ VRel μ r rv := by
  obtain ⟨k, n, rfl, g1⟩ := vNat_ne (d := none) h (by simp)
  obtain ⟨x, rfl, g⟩ := vU_ne (d := none) g1 (by simp)
  clear h g1
  have h := g
  clear g
  cases one_rel hi
  cases x with
  | agg X =>
    obtain ⟨a, h1, h2⟩ := ap_some h
    obtain ⟨s, h3, h4⟩ := ap_some h2
    obtain ⟨hl, h5⟩ := gd_some h4
    rw [Nat.blt_eq] at hl
    obtain ⟨cs, rfl, hc⟩ := hx
    obtain ⟨v, h6, h7⟩ := part?_ok (w := w) h5 hc
    refine ⟨v, ?_, h7⟩
    have hli := index_lit n a.1 hl
    simp only [Instr.index, Sem.run_bind, asIntOf, Sem.run_pure, Result.andThen_ok, run_underlying' (arrayOf_some h1), hli, and_self, if_true, run_sizeOf' h3]
    exact h6
  | s x =>
    obtain ⟨s, rfl, h1⟩ := sStr_ne (d := none) (f := fun s => gd (isStr P t) (ap (nth? s n) fun b => some (one (byteS b)))) h (by simp)
    obtain ⟨h2, h3⟩ := gd_some h1
    obtain ⟨b, h4, h5⟩ := ap_some h3
    cases h5
    rw [nth?_eq] at h4
    have hx' : xv = .string (bytesOf s) := hx
    subst hx'
    refine ⟨.int .u8 (UInt8.ofNat b).toNat, ?_, ?_⟩
    · have hn : n < s.length := (List.getElem?_eq_some_iff.1 h4).1
      have hb : (bytesOf s)[n]? = some (UInt8.ofNat b) := by
        have hn' : n < (bytesOf s).size := by rw [bytesOf_size]; exact hn
        rw [getElem?_pos (bytesOf s) n hn']
        congr 1
        have hg : s[n] = b := by rw [List.getElem?_eq_getElem hn] at h4; exact Option.some.inj h4
        show (bytesOf s).data[n] = _
        simp [bytesOf, hg]
      simp only [Instr.index, Sem.run_bind, asIntOf, Sem.run_pure, Result.andThen_ok, run_underlying' (isStr_true h2)]
      have h0 : (0 : Int) ≤ Int.ofNat n := by simp
      simp only [h0, if_true]
      show Sem.run P (match (bytesOf s)[n]? with | some b => pure (Value.int .u8 b.toNat) | none => _) w = _
      rw [hb]
      rfl
    · rw [byteS_eq]
      show Value.int .u8 _ = Value.int .u8 _
      congr 1

end

end Go.Sx
