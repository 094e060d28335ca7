/-
  SOUNDNESS OF THE ABSTRACT INTERPRETER, nineteenth part: functions without a body.
-/
import Derived.Test.YtechbpephhdmpaaGreatDoorB18
import GoSem.Extern.Table
import Derived.Lib.Bytealg
namespace Go.Sx

/-- the model's entry for a function without a body -/
def XSem : X → (Array Value → Sem Value) → Prop
  | .same, e => e = Extern.AbiNoEscape.same
  | .count, e => e = Extern.BytealgCount.count
  | .indexByte, e => e = Extern.BytealgIndexByte.indexByte
  | .load k, e => e = Extern.Atomic.loadT (.int k)
  | .store, e => e = Extern.Atomic.storeT
  | .cas k, e => e = Extern.Atomic.casT (.int k)
  | .add k, e => e = Extern.Atomic.update (Op.intArith .add) k true
  | .mapsClone, e => e = Extern.MapsClone.clone
  | .flag, e => ∃ m, e = fun _ => do mark m; pure undef
  | .markAt, e => ∃ m, e = Extern.Race.marked m
  | .known _ _, _ => False
  | .yes, _ => False
  | .tab .., _ => False

section
variable {P : Program} {w : World} {μ : Mu} {h h' : H} {v : V}

theorem rc1_ne {l : List V} {f : V → RC} {r : RC} (e : rc1 l f = r) (hr : ∀ m, r ≠ .bad m) : ∃ x, l = [x] ∧ f x = r := by
  cases l with
  | nil => exact absurd e.symm (hr _)
  | cons x l => cases l with
    | nil => exact ⟨x, rfl, e⟩
    | cons y l => exact absurd e.symm (hr _)
theorem rc2_ne {l : List V} {f : V → V → RC} {r : RC} (e : rc2 l f = r) (hr : ∀ m, r ≠ .bad m) : ∃ x y, l = [x, y] ∧ f x y = r := by
  cases l with
  | nil => exact absurd e.symm (hr _)
  | cons x l =>
    obtain ⟨y, rfl, h1⟩ := rc1_ne (show rc1 l (f x) = r from e) hr
    exact ⟨x, y, rfl, h1⟩
theorem rc3_ne {l : List V} {f : V → V → V → RC} {r : RC} (e : rc3 l f = r) (hr : ∀ m, r ≠ .bad m) : ∃ x y z, l = [x, y, z] ∧ f x y z = r := by
  cases l with
  | nil => exact absurd e.symm (hr _)
  | cons x l =>
    obtain ⟨y, z, rfl, h1⟩ := rc2_ne (show rc2 l (f x) = r from e) hr
    exact ⟨x, y, z, rfl, h1⟩

theorem args3 {l : List V} {args : Array Value} (hr : All2 (VRel μ) l args.toList) {x y z : V} (hl : l = [x, y, z]) : ∃ xv yv zv, args = #[xv, yv, zv] ∧ VRel μ x xv ∧ VRel μ y yv ∧ VRel μ z zv := by
  subst hl
  obtain ⟨xv, r, h1, h2, h3⟩ := hr.cons_left
  obtain ⟨yv, r2, h4, h5, h6⟩ := h3.cons_left
  obtain ⟨zv, r3, h7, h8, h9⟩ := h6.cons_left
  rw [h4, h7, h9.nil_left] at h1
  exact ⟨xv, yv, zv, by apply Array.ext'; rw [h1], h2, h5, h8⟩

theorem one_ne {v : V} {h : H} (m : String) : (RC.one v h) ≠ .bad m := by simp

theorem vByte_ne {c : V} {f : Nat → RC} {r : RC} (e : vByte c f = r) (hr : ∀ m, r ≠ .bad m) : ∃ n, c = one (.int .u8 (.ofNat n)) ∧ f n = r := by
  obtain ⟨k, n, rfl, h1⟩ := vInt_ne (d := RC.bad "byte") e (hr _)
  cases hk : eqK k .u8 with
  | false => rw [hk] at h1; exact absurd h1.symm (hr _)
  | true =>
    rw [hk] at h1
    rw [eqK_true hk]
    cases n with
    | negSucc n => exact absurd h1.symm (hr _)
    | ofNat n => exact ⟨n, rfl, h1⟩

theorem atI_ne {k : IntKind} {p : V} {f : Nat → Nat → Int → RC} {r : RC} (e : atI k p h f = r) (hr : ∀ m, r ≠ .bad m) :
    ∃ i o t cs n, p = one (.ptr i o) ∧ h.get i = .row t cs false ∧ cs[o]? = some (.int k n) ∧ f i o n = r := by
  obtain ⟨i, o, rfl, h1⟩ := vPtr_ne (d := RC.bad "atomic") e (hr _)
  obtain ⟨t, cs, fz, hg, h2⟩ := H.get_ne (d := RC.bad "atomic") h1 (hr _)
  cases fz with
  | true => exact absurd h2.symm (hr _)
  | false =>
    have h3 : (Option.casesOn (nth? cs o) (.bad "atomic") (fun v => sInt v (.bad "atomic") fun l n => Bool.casesOn (eqK k l) (.bad "atomic") (f i o n)) : RC) = r := h2
    cases hn : nth? cs o with
    | none => rw [hn] at h3; exact absurd h3.symm (hr _)
    | some x =>
      rw [hn] at h3
      obtain ⟨l, n, rfl, h4⟩ := sInt_ne (d := RC.bad "atomic") h3 (hr _)
      cases hk : eqK k l with
      | false => rw [hk] at h4; exact absurd h4.symm (hr _)
      | true =>
        rw [hk] at h4
        rw [nth?_eq] at hn
        rw [← eqK_true hk] at hn
        exact ⟨i, o, t, cs, n, rfl, hg, hn, h4⟩

/-- the cell that an atomic operation finds -/
theorem atI_cell (hr : HRel μ h w) {i o : Nat} {m : BI} {t : TypeId} {cs : List S} {k : IntKind} {n : Int} (hm : μ i = some m) (hg : h.get i = .row t cs false) (hn : cs[o]? = some (.int k n)) :
    w.cell? ⟨m.b, o, none⟩ = some (.int k n) ∧ w.frozen? ⟨m.b, o, none⟩ = false ∧ ∃ sz, w.shape? m.b = some (t, sz) := by
  obtain ⟨c, fr, k1, k2, k3, k4, k5⟩ := hr.row hm hg
  obtain ⟨x, h1, h2⟩ := k2 _ _ hn
  have h2' : x = .int k n := h2
  subst h2'
  refine ⟨by rw [cell_row k1]; exact h1, ?_, _, shape_row k1⟩
  rw [frozen_row k1]
  have hlt := (Array.getElem?_eq_some_iff.1 h1).1
  have := k5 rfl o hlt
  rw [Bool.eq_false_iff]
  simpa using this

theorem run_read {a : Addr} {k : IntKind} {n : Int} (hc : w.cell? a = some (.int k n)) : (Extern.Atomic.read (.int k) a).run P w = .ok (.int k n) w := by
  simp [Extern.Atomic.read, hc]

theorem stC_ok (hr : HRel μ h w) {i o : Nat} {m : BI} {X r : V} {xv : Value} {v : V} (hm : μ i = some m) (e : stC i o X r h = .one v h') (hx : VRel μ X xv) (md : Mode) :
    v = r ∧ ∃ w', (store ⟨m.b, o, none⟩ xv md).run P w = .ok () w' ∧ HRel μ h' w' ∧ Fr h μ w h' μ w' := by
  obtain ⟨x, rfl, h1⟩ := vS_ne (d := RC.bad "atomic") e (by simp)
  cases hs : storeC i o [x] h with
  | none => rw [hs] at h1; cases h1
  | some h2 =>
    rw [hs] at h1
    cases h1
    have hx' := one_rel hx
    obtain ⟨w', s1, s2, s3, _⟩ := storeC_ok (P := P) (xs := [xv]) hr hm hs ⟨hx', trivial⟩
    refine ⟨rfl, w', ?_, s2, s3⟩
    have h0 : (storeCells ⟨m.b, o, none⟩ [xv] 0) = (do store ((⟨m.b, o, none⟩ : Addr).add 0) xv; pure ()) := rfl
    rw [h0, Addr.add_lit, Nat.add_zero, Sem.run_bind, run_store P w _ xv _ hx'.oneCell] at s1
    rw [run_store P w _ xv _ hx'.oneCell]
    cases hc : w.cell? ⟨m.b, o, none⟩ with
    | some u =>
      rw [hc] at s1
      simp only at s1 ⊢
      split at s1
      · cases s1
      · rw [if_neg (by assumption)]
        simpa using s1
    | none =>
      exfalso
      obtain ⟨t, cs, fz, hg, h3⟩ := H.get_ne (d := none) hs (by simp)
      obtain ⟨c, fr, k1, k2, k3, k4, k5⟩ := hr.row hm hg
      rw [cell_row k1] at hc
      cases fz with
      | true => cases h3
      | false =>
        obtain ⟨cs', h4, _⟩ := ap_some (o := lay cs o [x]) (f := fun cs => some (h.set i (.row t cs false))) h3
        obtain ⟨_, h5, _⟩ := lay_get h4
        simp at h5
        have : o < c.size := by omega
        simp [this] at hc

theorem countB_eq (c : Nat) (s : List Nat) : countB (byteN c) s = Go.Lib.countByte (s.map UInt8.ofNat) (UInt8.ofNat c) := by
  unfold Go.Lib.countByte
  induction s with
  | nil => rfl
  | cons b s ih =>
    have h1 : countB (byteN c) (b :: s) = Bool.casesOn (Nat.beq (byteN b) (byteN c)) (countB (byteN c) s) (Nat.succ (countB (byteN c) s)) := rfl
    rw [List.map_cons, List.count_cons, ← ih, h1, byte_eq]
    cases (UInt8.ofNat b == UInt8.ofNat c) <;> simp

theorem findB_eq (c : Nat) (s : List Nat) (i : Nat) : findB (byteN c) s i = if Go.Lib.indexByte (s.map UInt8.ofNat) (UInt8.ofNat c) = -1 then -1 else (i : Int) + Go.Lib.indexByte (s.map UInt8.ofNat) (UInt8.ofNat c) := by
  induction s generalizing i with
  | nil => rfl
  | cons b s ih =>
    have h1 : findB (byteN c) (b :: s) i = Bool.casesOn (Nat.beq (byteN b) (byteN c)) (findB (byteN c) s (Nat.succ i)) (.ofNat i) := rfl
    rw [h1, byte_eq, List.map_cons, Go.Lib.indexByte, ih]
    have hge := Go.Lib.indexByte_ge (s.map UInt8.ofNat) (UInt8.ofNat c)
    cases (UInt8.ofNat b == UInt8.ofNat c) with
    | true => simp
    | false =>
      simp only [Bool.false_eq_true, if_false]
      by_cases hm : Go.Lib.indexByte (s.map UInt8.ofNat) (UInt8.ofNat c) = -1
      · simp [hm]
      · have hb : (Go.Lib.indexByte (s.map UInt8.ofNat) (UInt8.ofNat c) == -1) = false := by simpa using hm
        rw [hb]
        simp only [hm, if_false, Bool.false_eq_true]
        rw [if_neg (by omega)]
        have : ((i.succ : Nat) : Int) = (i : Int) + 1 := by omega
        rw [this]
        omega

theorem evX_ok {x : X} {e : Array Value → Sem Value} (he : XSem x e) (hr : HRel μ h w) {args : List V} {argv : Array Value} (ha : All2 (VRel μ) args argv.toList) (hv : evX x args h = .one v h') : Done P h μ w (e argv) v h' := by
  cases x with
  | same =>
    cases he
    obtain ⟨X, rfl, h1⟩ := rc1_ne (f := fun v => RC.one v h) hv (one_ne)
    obtain ⟨xv, rfl, r1⟩ := args1 ha rfl
    cases h1
    exact Done.pure hr ⟨xv, rfl, r1⟩
  | count =>
    cases he
    obtain ⟨X, Y, rfl, h1⟩ := rc2_ne (f := fun s c => vStr s (.bad "count") fun s => vByte c fun c => RC.one (nat (countB (byteN c) s)) h) hv (one_ne)
    obtain ⟨xv, yv, rfl, r1, r2⟩ := args2 ha rfl
    obtain ⟨s, rfl, h2⟩ := vStr_ne (d := RC.bad "count") h1 (by simp)
    obtain ⟨c, rfl, h3⟩ := vByte_ne h2 (one_ne)
    cases h3
    cases one_rel r1
    cases one_rel r2
    refine Done.pure hr ⟨goInt (countB (byteN c) s), ?_, rfl⟩
    rw [strV_eq, Go.Lib.run_countString, countB_eq]
    simp [goInt, bytesOf]
  | indexByte =>
    cases he
    obtain ⟨X, Y, rfl, h1⟩ := rc2_ne (f := fun s c => vStr s (.bad "index") fun s => vByte c fun c => RC.one (int .i64 (findB (byteN c) s 0)) h) hv (one_ne)
    obtain ⟨xv, yv, rfl, r1, r2⟩ := args2 ha rfl
    obtain ⟨s, rfl, h2⟩ := vStr_ne (d := RC.bad "index") h1 (by simp)
    obtain ⟨c, rfl, h3⟩ := vByte_ne h2 (one_ne)
    cases h3
    cases one_rel r1
    cases one_rel r2
    refine Done.pure hr ⟨.int .i64 (findB (byteN c) s 0), ?_, VRel.int _ _⟩
    rw [strV_eq, Go.Lib.run_indexByteString, findB_eq]
    have hd : (bytesOf s).data.toList = s.map UInt8.ofNat := by simp [bytesOf]
    have hcc : (Int.ofNat c).toNat.toUInt8 = UInt8.ofNat c := rfl
    rw [hd, hcc]
    congr 2
    split
    · assumption
    · simp
  | load k =>
    cases he
    obtain ⟨X, rfl, h1⟩ := rc1_ne (f := fun p => atI k p h fun _ _ n => RC.one (int k n) h) hv (one_ne)
    obtain ⟨xv, rfl, r1⟩ := args1 ha rfl
    obtain ⟨i, o, t, cs, n, rfl, hg, hn, h2⟩ := atI_ne h1 (one_ne)
    cases h2
    obtain ⟨m, hm, rfl⟩ := ptr_rel r1
    obtain ⟨c1, c2, _⟩ := atI_cell hr hm hg hn
    refine Done.pure hr ⟨.int k n, ?_, VRel.int _ _⟩
    have hdef : Extern.Atomic.loadT (.int k) #[.pointer (some ⟨m.b, o, none⟩)] = (do Extern.Atomic.read (.int k) (← asAddr (.pointer (some ⟨m.b, o, none⟩)))) := rfl
    rw [hdef]
    simp only [asAddr, Sem.run_bind, Sem.run_pure, Result.andThen_ok, run_read c1]
  | store =>
    cases he
    obtain ⟨X, Y, rfl, h1⟩ := rc2_ne (f := fun p v => vPtr p (.bad "atomic") fun i o => stC i o v undef' h) hv (one_ne)
    obtain ⟨xv, yv, rfl, r1, r2⟩ := args2 ha rfl
    obtain ⟨i, o, rfl, h2⟩ := vPtr_ne (d := RC.bad "atomic") h1 (by simp)
    obtain ⟨m, hm, rfl⟩ := ptr_rel r1
    obtain ⟨rfl, w', s1, s2, s3⟩ := stC_ok (P := P) hr hm h2 r2 .atomic
    refine ⟨undef, w', μ, ?_, VRel.undef, s2, s3⟩
    have hdef : Extern.Atomic.storeT #[.pointer (some ⟨m.b, o, none⟩), yv] = (do store (← asAddr (.pointer (some ⟨m.b, o, none⟩))) yv .atomic; pure undef) := rfl
    show (Extern.Atomic.storeT #[.pointer (some ⟨m.b, o, none⟩), yv]).run P w = _
    rw [hdef]
    simp only [asAddr, Sem.run_bind, Sem.run_pure, Result.andThen_ok, s1]
  | cas k =>
    cases he
    obtain ⟨X, Y, Z, rfl, h1⟩ := rc3_ne (f := fun p a b => vInt a (.bad "atomic") fun _ a => vInt b (.bad "atomic") fun l b => atI k p h fun i o n => Bool.casesOn (motive := fun _ => RC) (eqI n a) (RC.one (bool false) h) (stC i o (int l b) (bool true) h)) hv (one_ne)
    obtain ⟨xv, yv, zv, rfl, r1, r2, r3⟩ := args3 ha rfl
    obtain ⟨ka, a, rfl, h2⟩ := vInt_ne (d := RC.bad "atomic") h1 (by simp)
    obtain ⟨l, b, rfl, h3⟩ := vInt_ne (d := RC.bad "atomic") h2 (by simp)
    obtain ⟨i, o, t, cs, n, rfl, hg, hn, h4⟩ := atI_ne h3 (one_ne)
    obtain ⟨m, hm, rfl⟩ := ptr_rel r1
    obtain ⟨c1, c2, sz, c3⟩ := atI_cell hr hm hg hn
    cases one_rel r2
    have r3' := one_rel r3
    have r3'' : zv = .int l b := r3'
    subst r3''
    have hdef : Extern.Atomic.casT (.int k) #[.pointer (some ⟨m.b, o, none⟩), .int ka a, .int l b] = (do
        let ad ← asAddr (.pointer (some ⟨m.b, o, none⟩))
        if ← Extern.Atomic.touchesFrozen ad then unsupported (.unsafePointer "a write to bytes that a string shares")
        let eq ← match Extern.Atomic.T.int k, ← Extern.Atomic.read (.int k) ad, Value.int ka a with
          | _, .int _ x, .int _ y => pure (x == y)
          | .ptr, .pointer x, .pointer y => samePointer x y
          | .int _, .pointer (some _), .int _ 0 | .int _, .int _ 0, .pointer (some _) => pure false
          | .int _, .pointer (some _), _ | .int _, _, .pointer (some _) => unsupported .addressObserved
          | _, _, _ => stuck "atomic.CompareAndSwap: old is no T"
        if eq then store ad (.int l b) .atomic
        pure (.bool eq)) := rfl
    have htf : (Extern.Atomic.touchesFrozen ⟨m.b, o, none⟩).run P w = .ok false w := by
      simp [Extern.Atomic.touchesFrozen, viewAt, c3, c2]
    cases hq : eqI n a with
    | false =>
      rw [hq] at h4
      have h5 : RC.one (bool false) h = .one v h' := h4
      cases h5
      rw [eqI_eq] at hq
      refine Done.pure hr ⟨.bool false, ?_, VRel.bool false⟩
      show (Extern.Atomic.casT (.int k) #[.pointer (some ⟨m.b, o, none⟩), .int ka a, .int l b]).run P w = _
      rw [hdef]
      simp only [asAddr, Sem.run_bind, Sem.run_pure, Result.andThen_ok, htf, Bool.false_eq_true, if_false, run_read c1, hq]
    | true =>
      rw [hq] at h4
      have h5 : stC i o (int l b) (bool true) h = .one v h' := h4
      rw [eqI_eq] at hq
      obtain ⟨rfl, w', s1, s2, s3⟩ := stC_ok (P := P) (xv := .int l b) hr hm h5 (VRel.int l b) .atomic
      refine ⟨.bool true, w', μ, ?_, VRel.bool true, s2, s3⟩
      show (Extern.Atomic.casT (.int k) #[.pointer (some ⟨m.b, o, none⟩), .int ka a, .int l b]).run P w = _
      rw [hdef]
      simp only [asAddr, Sem.run_bind, Sem.run_pure, Result.andThen_ok, htf, Bool.false_eq_true, if_false, run_read c1, hq, if_true, s1]
  | add k =>
    cases he
    obtain ⟨X, Y, rfl, h1⟩ := rc2_ne (f := fun p y => vInt y (.bad "atomic") fun _ y => atI k p h fun i o n => stC i o (int k (wrapK k (Int.add n y))) (int k (wrapK k (Int.add n y))) h) hv (one_ne)
    obtain ⟨xv, yv, rfl, r1, r2⟩ := args2 ha rfl
    obtain ⟨ky, y, rfl, h2⟩ := vInt_ne (d := RC.bad "atomic") h1 (by simp)
    obtain ⟨i, o, t, cs, n, rfl, hg, hn, h3⟩ := atI_ne h2 (one_ne)
    obtain ⟨m, hm, rfl⟩ := ptr_rel r1
    obtain ⟨c1, c2, sz, c3⟩ := atI_cell hr hm hg hn
    cases one_rel r2
    have hadd : wrapK k (Int.add n y) = k.wrap (n + y) := wrapK_eq _ _
    rw [hadd] at h3
    obtain ⟨rfl, w', s1, s2, s3⟩ := stC_ok (P := P) (xv := .int k (k.wrap (n + y))) hr hm h3 (VRel.int _ _) .atomic
    refine ⟨.int k (k.wrap (n + y)), w', μ, ?_, VRel.int _ _, s2, s3⟩
    have hdef : Extern.Atomic.update (Op.intArith .add) k true #[.pointer (some ⟨m.b, o, none⟩), .int ky y] = (do
        let ad ← asAddr (.pointer (some ⟨m.b, o, none⟩))
        let old ← Extern.Atomic.read (.int k) ad
        let new ← Op.intArith .add k (← asInt old) (← asInt (.int ky y))
        store ad new .atomic
        pure (if true then new else old)) := rfl
    show (Extern.Atomic.update (Op.intArith .add) k true #[.pointer (some ⟨m.b, o, none⟩), .int ky y]).run P w = _
    rw [hdef]
    simp only [asAddr, asInt, asIntOf, Sem.run_bind, Sem.run_pure, Result.andThen_ok, run_read c1, Op.intArith, s1, if_true]
  | mapsClone =>
    cases he
    obtain ⟨X, rfl, h1⟩ := rc1_ne (f := fun x => vS x (.bad "clone") fun x => sIfc x (.bad "clone") fun t i => oMap (h.get i) (.bad "clone") fun es c =>
      h.new (.map es c) (.bad "clone") fun n h => RC.one (Sx.one (.ifc t n)) h) hv (one_ne)
    obtain ⟨xv, rfl, r1⟩ := args1 ha rfl
    obtain ⟨x, rfl, h2⟩ := vS_ne (d := RC.bad "clone") h1 (by simp)
    obtain ⟨t, i, rfl, h3⟩ := sIfc_ne (d := RC.bad "clone") h2 (by simp)
    obtain ⟨es, c, hg, h4⟩ := oMap_ne (d := RC.bad "clone") h3 (by simp)
    rw [H.new_eq] at h4
    split at h4
    · rename_i hn
      cases h4
      obtain ⟨m, hm, rfl⟩ := one_rel r1
      obtain ⟨es', k1, k2⟩ := hr.mapAt hm hg
      refine NewRes.done hr hn ⟨.map es' c, 0, .iface t (.map (some w.heap.size)), 0, ?_, fun μ' w' hle hn' hw => ⟨⟨_, hn', rfl⟩, es', hw, k2.mono fun _ _ => ERel.mono hle⟩⟩
      have hdef : Extern.MapsClone.clone #[.iface t (.map (some m.b))] = (do
          let .map entries clock ← getObj m.b | stuck "maps.clone: a map expected"
          pure (.iface t (.map (some (← newObj (.map entries clock)))))) := rfl
      rw [hdef]
      simp only [Sem.run_bind, run_getObj' k1 (by simp), Result.andThen_ok, run_newObj_alloc, Sem.run_pure]
      rfl
    · cases h4
  | flag =>
    obtain ⟨m, rfl⟩ := he
    cases args with
    | cons x l => cases hv
    | nil =>
      cases hv
      refine Done.pure hr ⟨undef, ?_, VRel.undef⟩
      simp only [Sem.run_bind, run_mark, Result.andThen_ok, Sem.run_pure]
  | markAt =>
    obtain ⟨m, rfl⟩ := he
    obtain ⟨X, rfl, h1⟩ := rc1_ne (f := fun p => vPtr p (.bad "mark") fun _ _ => RC.one undef' h) hv (one_ne)
    obtain ⟨xv, rfl, r1⟩ := args1 ha rfl
    obtain ⟨i, o, rfl, h2⟩ := vPtr_ne (d := RC.bad "mark") h1 (by simp)
    cases h2
    obtain ⟨mm, hm, rfl⟩ := ptr_rel r1
    refine Done.pure hr ⟨undef, ?_, VRel.undef⟩
    have hat : Extern.Race.at_ #[.pointer (some ⟨mm.b, o, none⟩)] = pure ⟨mm.b, o, none⟩ := rfl
    simp only [Extern.Race.marked, hat, Sem.run_bind, run_mark, Result.andThen_ok, Sem.run_pure]
    rfl
  | known a r => exact he.elim
  | yes => exact he.elim
  | tab tv t pre post => exact he.elim

end

end Go.Sx
