/-
  SOUNDNESS OF THE ABSTRACT INTERPRETER, seventh part: slices of values; the other operations that do not touch memory.
-/
import Derived.Test.YtechbpephhdmpaaGreatDoorB6
import Derived.Laws.Strings2
namespace Go.Sx

section
variable {P : Program} {w : World} {μ : Mu}

def ORelV (μ : Mu) : Option V → Option Value → Prop
  | none, none => True
  | some X, some x => VRel μ X x
  | _, _ => False

/-- a bound that is a number -/
def NatV : Option Nat → Option Value → Prop
  | none, none => True
  | some n, some x => ∃ k, x = .int k (n : Int)
  | _, _ => False

theorem oNat_ok {X : Option V} {x : Option Value} {r : Option Nat} (h : oNat X = some r) (hx : ORelV μ X x) : NatV r x := by
  cases X with
  | none => cases x with
    | none => cases h; trivial
    | some x => cases hx
  | some X => cases x with
    | none => cases hx
    | some x =>
      obtain ⟨k, n, rfl, h2⟩ := vNat_ne (d := none) (f := fun n => some (some n)) h (by simp)
      cases h2
      exact ⟨k, hx⟩

theorem run_bound {k : IntKind} {n y : Nat} (code : BoundsCode) (h : n ≤ y) : (Instr.sliceBound (.int k (n : Int)) y code).run P w = .ok n w := by
  have h1 : (0 : Int) ≤ (n : Int) ∧ (n : Int) ≤ (y : Int) := ⟨by omega, by omega⟩
  simp only [Instr.sliceBound, Sem.run_bind, asIntOf, Sem.run_pure, Result.andThen_ok, h1, and_self, if_true]
  rfl

theorem run_bounds {b : Bool} {len cap : Nat} {lo hi mx : Option Nat} {lov hiv mxv : Option Value} (hl : NatV lo lov) (hh : NatV hi hiv) (hm : NatV mx mxv)
    (h1 : mx.isSome = true → hi.isSome = true) (h2 : mx.getD cap ≤ cap) (h3 : hi.isSome = true → hi.getD len ≤ mx.getD cap) (h4 : lo.getD 0 ≤ hi.getD len) :
    (Instr.sliceBounds b len cap lov hiv mxv).run P w = .ok (lo.getD 0, hi.getD len, mx.getD cap) w := by
  unfold Instr.sliceBounds
  cases mx with
  | none =>
    cases mxv with
    | some x => cases hm
    | none =>
      cases hi with
      | none => cases hiv with
        | some x => cases hh
        | none =>
          cases lo with
          | none => cases lov with
            | some x => cases hl
            | none => simp
          | some l => cases lov with
            | none => cases hl
            | some x =>
              obtain ⟨k, rfl⟩ := hl
              simp at h4
              simp [run_bound _ h4]
      | some g => cases hiv with
        | none => cases hh
        | some x =>
          obtain ⟨k, rfl⟩ := hh
          have h3' : g ≤ cap := by simpa using h3
          cases lo with
          | none => cases lov with
            | some x => cases hl
            | none => simp [run_bound _ h3']
          | some l => cases lov with
            | none => cases hl
            | some x =>
              obtain ⟨k', rfl⟩ := hl
              simp at h4
              simp [run_bound _ h4, run_bound _ h3']
  | some m =>
    cases mxv with
    | none => cases hm
    | some y =>
      obtain ⟨k2, rfl⟩ := hm
      simp at h2
      cases hi with
      | none => simp at h1
      | some g => cases hiv with
        | none => cases hh
        | some x =>
          obtain ⟨k, rfl⟩ := hh
          have h3' : g ≤ m := by simpa using h3
          cases lo with
          | none => cases lov with
            | some x => cases hl
            | none => simp [run_bound _ h3', run_bound _ h2]
          | some l => cases lov with
            | none => cases hl
            | some x =>
              obtain ⟨k', rfl⟩ := hl
              simp at h4
              simp [run_bound _ h4, run_bound _ h3', run_bound _ h2]

theorem ble_iff {a b : Nat} : Nat.ble a b = true ↔ a ≤ b := ⟨Nat.le_of_ble_eq_true, Nat.ble_eq_true_of_le⟩

theorem sliceStr_ok {s : List Nat} {l g : Nat} {r : V} (h : sliceStr s l g = some r) : l ≤ g ∧ g ≤ s.length ∧ VRel μ r (.string ((bytesOf s).extract l g)) := by
  obtain ⟨h1, h2⟩ := gd_some h
  obtain ⟨h3, h4⟩ := gd_some h2
  rw [ble_iff, lenl_eq] at h1
  rw [ble_iff] at h3
  cases h4
  refine ⟨h3, h1, ?_⟩
  show _ = strV _
  rw [strV_eq, bytesOf, ByteArray.extract_mk, takel_eq, dropl_eq, bytesOf, List.map_take, List.map_drop]
  rfl

theorem sliceSlc_ok {s i o len l g : Nat} {c : Cp} {mx : Option Nat} {r : V} {m : BI} {a : Addr} {cap : Nat} (h : sliceSlc s i o len c l g mx = some r) (hm : μ i = some m)
    (hlc : len ≤ cap) (ha : cap = 0 ∨ a = ⟨m.b, o, none⟩) (hc : match (generalizing := false) c with | .ex c => cap = c | .op s => cap * s + o = m.n) :
    l ≤ g ∧ g ≤ mx.getD cap ∧ mx.getD cap ≤ cap ∧ VRel μ r (.slice (some (if mx.getD cap = l then a else a.add (l * s))) (g - l) (mx.getD cap - l)) := by
  obtain ⟨h1, h2⟩ := gd_some h
  obtain ⟨h3, h4⟩ := gd_some h2
  rw [ble_iff] at h3
  have haddr : ∀ q, q ≤ cap → (q - l = 0 ∨ (if q = l then a else a.add (l * s)) = ⟨m.b, o + l * s, none⟩) := by
    intro q hq
    by_cases e : q - l = 0
    · exact .inl e
    · right
      have : q ≠ l := by omega
      rw [if_neg this]
      rcases ha with ha | ha
      · omega
      · rw [ha, Addr.add_lit]
  cases mx with
  | none =>
    obtain ⟨h5, h6⟩ := gd_some (x := mkSlc i (Nat.add o (Nat.mul l s)) (Nat.sub g l) (cpSub c l)) h4
    cases h6
    have hg : g ≤ cap := by
      cases c with
      | ex c => have h7 : Nat.ble g c = true := h5; rw [ble_iff] at h7; have hc' : cap = c := hc; omega
      | op t => have h7 : Nat.ble g len = true := h5; rw [ble_iff] at h7; omega
    refine ⟨h3, hg, Nat.le_refl _, m, _, cap - l, hm, rfl, by show g - l ≤ cap - l; omega, haddr cap (Nat.le_refl _), ?_⟩
    cases c with
    | ex c => have hc' : cap = c := hc; show cap - l = c - l; omega
    | op t =>
      have h7 : Nat.beq t s = true := h1
      rw [Nat.beq_eq] at h7
      subst h7
      have hc' : cap * t + o = m.n := hc
      show (cap - l) * t + (o + l * t) = m.n
      have : (cap - l) * t + l * t = cap * t := by rw [← Nat.add_mul]; congr 1; omega
      omega
  | some q =>
    obtain ⟨h5, h6⟩ := gd_some (x := gd (Nat.ble g q) (mkSlc i (Nat.add o (Nat.mul l s)) (Nat.sub g l) (.ex (Nat.sub q l)))) h4
    obtain ⟨h7, h8⟩ := gd_some h6
    rw [ble_iff] at h7
    cases h8
    have hg : q ≤ cap := by
      cases c with
      | ex c => have h7 : Nat.ble q c = true := h5; rw [ble_iff] at h7; have hc' : cap = c := hc; omega
      | op t => have h7 : Nat.ble q len = true := h5; rw [ble_iff] at h7; omega
    exact ⟨h3, h7, hg, m, _, q - l, hm, rfl, by show g - l ≤ q - l; omega, haddr q hg, rfl⟩

theorem slice_ok {t : TypeId} {X r : V} {lo hi mx : Option V} {xv : Value} {lov hiv mxv : Option Value} (h : slice P t X lo hi mx = some r) (hx : VRel μ X xv)
    (hlo : ORelV μ lo lov) (hhi : ORelV μ hi hiv) (hmx : ORelV μ mx mxv) : ∃ rv, (Instr.sliceAt t xv lov hiv mxv).run P w = .ok rv w ∧ VRel μ r rv := by
  obtain ⟨l, h1, h2⟩ := ap_some h
  obtain ⟨g, h3, h4⟩ := ap_some h2
  obtain ⟨m, h5, h6⟩ := ap_some h4
  obtain ⟨x, rfl, h7⟩ := vS_ne (d := none) h6 (by simp)
  have nl := oNat_ok h1 hlo
  have ng := oNat_ok h3 hhi
  have nm := oNat_ok h5 hmx
  clear h h1 h2 h3 h4 h5 h6 hlo hhi hmx
  unfold sliceS at h7
  by_cases hs : ∃ s, x = .str s
  · obtain ⟨s, rfl⟩ := hs
    obtain ⟨h8, h9⟩ := gd_some (b := isStr P t) (x := Option.casesOn (motive := fun _ => Option V) m (sliceStr s (getO l 0) (getO g (lenl s))) (fun _ => none)) h7
    cases m with
    | some m => cases h9
    | none =>
      cases mxv with
      | some y => cases nm
      | none =>
        obtain ⟨k1, k2, k3⟩ := sliceStr_ok (μ := μ) h9
        rw [getO_eq, getO_eq, lenl_eq] at k1 k3
        rw [getO_eq, lenl_eq] at k2
        cases one_rel hx
        refine ⟨_, ?_, k3⟩
        have hb := run_bounds (P := P) (w := w) (b := false) (len := (bytesOf s).size) (cap := (bytesOf s).size) nl ng nm (by simp) (by simp) (by intro _; rw [bytesOf_size]; exact k2) (by rw [bytesOf_size]; exact k1)
        rw [bytesOf_size] at hb
        simp only [Instr.sliceAt, Sem.run_bind, run_underlying' (isStr_true h8), Result.andThen_ok, Instr.slice, strV_eq, bytesOf_size, Option.isSome_none, Bool.false_eq_true, if_false, hb]
        rfl
  · have h8 : (ap (sliceElem P t) fun e => ap (sizeOf? P e) fun s =>
      sSlc x none (gd (Nat.beq (getO l 0) 0) (gd (Nat.beq (getO g 0) 0) (Option.casesOn m (some (one .nils)) (fun _ => none))))
        fun i o len c => Bool.casesOn (andb m.isSome g.isNone) (sliceSlc s i o len c (getO l 0) (getO g len) m) none) = some r := by
      cases x <;> first | exact h7 | exact absurd ⟨_, rfl⟩ hs
    clear h7
    obtain ⟨e, h9, h10⟩ := ap_some h8
    obtain ⟨s, h11, h12⟩ := ap_some h10
    clear h8 h10
    rcases sSlc_ne h12 (by simp) with ⟨rfl, h13⟩ | ⟨i, o, len, c, rfl, h13⟩
    · obtain ⟨k1, k2⟩ := gd_some h13
      obtain ⟨k3, k4⟩ := gd_some k2
      rw [Nat.beq_eq, getO_eq] at k1 k3
      cases m with
      | some m => cases k4
      | none =>
        cases k4
        cases one_rel hx
        refine ⟨.slice none 0 0, ?_, rfl⟩
        have hb := run_bounds (P := P) (w := w) (b := true) (len := 0) (cap := 0) nl ng nm (by simp) (by simp) (by intro _; rw [k3]; simp) (by rw [k1, k3]; simp)
        rw [k1, k3] at hb
        simp only [Instr.sliceAt, Sem.run_bind, run_underlying' (sliceElem_some h9), Result.andThen_ok, Instr.slice, hb, run_sizeOf' h11, Option.getD_none, if_true]
        rfl
    · cases hb : andb m.isSome g.isNone with
      | true => rw [hb] at h13; cases h13
      | false =>
        rw [hb] at h13
        have hmg : m.isSome = true → g.isSome = true := by
          intro hm
          rw [andb_eq, hm] at hb
          cases g <;> simp_all
        obtain ⟨M, a, cap, hm, rfl, hlc, ha, hc⟩ := one_rel hx
        obtain ⟨k1, k2, k3, k4⟩ := sliceSlc_ok h13 hm hlc ha hc
        rw [getO_eq, getO_eq] at k1 k4
        rw [getO_eq] at k2
        refine ⟨_, ?_, k4⟩
        have hb := run_bounds (P := P) (w := w) (b := true) (len := len) (cap := cap) nl ng nm hmg k3 (fun _ => k2) k1
        simp only [Instr.sliceAt, Sem.run_bind, run_underlying' (sliceElem_some h9), Result.andThen_ok, Instr.slice, hb, run_sizeOf' h11]
        by_cases hh : m.getD cap = l.getD 0 <;> simp [hh]

/-! ### the others -/

theorem rv_val {h h' : H} {o : Option V} {v : V} (e : rv h o = .val v h') : o = some v ∧ h' = h := by
  cases o with
  | none => cases e
  | some x => cases e; exact ⟨rfl, rfl⟩

theorem pick_ok {c a b r : V} {h h' : H} {cv av bv : Value} (e : pick c a b h = .val r h') (hc : VRel μ c cv) (ha : VRel μ a av) (hb : VRel μ b bv) :
    h' = h ∧ ∃ t, cv = .bool t ∧ VRel μ r (if t then av else bv) := by
  obtain ⟨t, rfl, e2⟩ := vBool_ne (d := RO.bad) e (by simp)
  cases one_rel hc
  cases t with
  | false => cases e2; exact ⟨rfl, false, rfl, hb⟩
  | true => cases e2; exact ⟨rfl, true, rfl, ha⟩

theorem extract_ok {X r : V} {i : Nat} {h h' : H} {xv : Value} (e : extract X i h = .val r h') (hx : VRel μ X xv) : h' = h ∧ ∃ rv, (Instr.extract xv i).run P w = .ok rv w ∧ VRel μ r rv := by
  obtain ⟨l, rfl, e2⟩ := vTup_ne (d := RO.bad) e (by simp)
  obtain ⟨vs, rfl, hv⟩ := hx
  cases hn : nth? l i with
  | none => rw [hn] at e2; cases e2
  | some u =>
    rw [hn] at e2
    cases e2
    rw [nth?_eq] at hn
    obtain ⟨y, h1, h2⟩ := hv.get hn
    have h1' : vs[i]? = some y := by simpa using h1
    exact ⟨rfl, y, by simp [Instr.extract, h1'], h2⟩

theorem nilCheck_ok {X r : V} {h h' : H} {xv : Value} (e : nilCheck X h = .val r h') (hx : VRel μ X xv) : h' = h ∧ r = X ∧ ∃ a, xv = .pointer (some a) := by
  obtain ⟨i, o, rfl, e2⟩ := vPtr_ne (d := RO.bad) e (by simp)
  obtain ⟨m, _, rfl⟩ := ptr_rel hx
  cases e2
  exact ⟨rfl, rfl, _, rfl⟩

theorem makeIface_ok {t : TypeId} {X r : V} {h h' : H} {xv : Value} (e : makeIface P t X h = .val r h') (hx : VRel μ X xv) : h' = h ∧ ∃ rv, (Instr.makeInterface t xv).run P w = .ok rv w ∧ VRel μ r rv := by
  unfold makeIface at e
  cases hi : isIface P t with
  | true => rw [hi] at e; cases e
  | false =>
    rw [hi] at e
    cases hk : known P t with
    | false => rw [hk] at e; cases e
    | true =>
      rw [hk] at e
      obtain ⟨x, rfl, e2⟩ := vS_ne (d := RO.bad) e (by simp)
      rcases sMap_ne e2 (by simp) with ⟨rfl, e3⟩ | ⟨i, rfl, e3⟩
      · cases e3
      · cases e3
        obtain ⟨m, hm, rfl⟩ := one_rel hx
        obtain ⟨d, hd⟩ := known_true hk
        refine ⟨rfl, .iface t (.map (some m.b)), ?_, m, hm, rfl⟩
        simp only [Instr.makeInterface, Sem.run_bind, run_underlying' hd, Result.andThen_ok]
        cases d <;> first | rfl | exact absurd hd (isIface_false hi _)

theorem lookR_rel {ok b : Bool} {u : U} {v : Value} (h : URel μ u v) : VRel μ (lookR ok u b) (if ok then .tuple #[v, .bool b] else v) := by
  cases ok with
  | false => exact h
  | true => exact ⟨#[v, .bool b], rfl, h, rfl, trivial⟩

theorem typeAssert_ok {t s : TypeId} {ok : Bool} {X r : V} {h h' : H} {xv : Value} (e : typeAssert P X t ok h = .val r h') (hx : VRel μ X xv) :
    h' = h ∧ ∃ rv, (Instr.typeAssert xv s t ok).run P w = .ok rv w ∧ VRel μ r rv := by
  unfold typeAssert at e
  cases hi : isIface P t with
  | true => rw [hi] at e; cases e
  | false =>
    rw [hi] at e
    cases hk : known P t with
    | false => rw [hk] at e; cases e
    | true =>
      rw [hk] at e
      obtain ⟨x, rfl, e2⟩ := vS_ne (d := RO.bad) e (by simp)
      obtain ⟨u, m, rfl, e3⟩ := sIfc_ne e2 (by simp)
      cases hb : Nat.beq u t with
      | false => rw [hb] at e3; cases e3
      | true =>
        rw [hb] at e3
        cases e3
        have hut : u = t := by rwa [Nat.beq_eq] at hb
        subst hut
        obtain ⟨M, hm, rfl⟩ := one_rel hx
        obtain ⟨d, hd⟩ := known_true hk
        refine ⟨rfl, _, ?_, lookR_rel (v := .map (some M.b)) ⟨M, hm, rfl⟩⟩
        simp only [Instr.typeAssert, Sem.run_bind, run_underlying' hd, Result.andThen_ok]
        cases d <;> first | (simp; done) | exact absurd hd (isIface_false hi _)

theorem max_ok {X Y r : V} {h h' : H} {xv yv : Value} (ts : Array TypeId) (ty : TypeId) (e : maxV X Y h = .val r h') (hx : VRel μ X xv) (hy : VRel μ Y yv) :
    h' = h ∧ ∃ rv, (Builtin.max_ ts ty #[xv, yv]).run P w = .ok rv w ∧ VRel μ r rv := by
  obtain ⟨k, a, rfl, e2⟩ := vInt_ne (d := RO.bad) e (by simp)
  obtain ⟨l, b, rfl, e3⟩ := vInt_ne (d := RO.bad) e2 (by simp)
  cases e3
  cases one_rel hx
  cases one_rel hy
  refine ⟨rfl, .int k (if b > a then b else a), by simp [Builtin.max_, Builtin.max2], ?_⟩
  rw [ltI_eq]
  by_cases hh : a < b
  · rw [decide_eq_true hh, if_pos hh]; exact VRel.int k b
  · rw [decide_eq_false hh, if_neg hh]; exact VRel.int k a
theorem min_ok {X Y r : V} {h h' : H} {xv yv : Value} (ts : Array TypeId) (ty : TypeId) (e : minV X Y h = .val r h') (hx : VRel μ X xv) (hy : VRel μ Y yv) :
    h' = h ∧ ∃ rv, (Builtin.min_ ts ty #[xv, yv]).run P w = .ok rv w ∧ VRel μ r rv := by
  obtain ⟨k, a, rfl, e2⟩ := vInt_ne (d := RO.bad) e (by simp)
  obtain ⟨l, b, rfl, e3⟩ := vInt_ne (d := RO.bad) e2 (by simp)
  cases e3
  cases one_rel hx
  cases one_rel hy
  refine ⟨rfl, .int k (if b < a then b else a), by simp [Builtin.min_, Builtin.min2], ?_⟩
  rw [ltI_eq]
  by_cases hh : b < a
  · rw [decide_eq_true hh, if_pos hh]; exact VRel.int k b
  · rw [decide_eq_false hh, if_neg hh]; exact VRel.int k a

theorem lenOf_rel {x : S} {n : Nat} {xv : Value} (h : lenOf x = some n) (hx : SRel μ x xv) :
    (∃ s, x = .str s ∧ xv = .string (bytesOf s) ∧ n = s.length) ∨ (x = .nils ∧ xv = .slice none 0 0 ∧ n = 0) ∨ (∃ i o c a cap, x = .slc i o n c ∧ xv = .slice (some a) n cap) := by
  cases x <;> first
    | (exfalso; cases h; done)
    | skip
  case str s => cases h; exact .inl ⟨s, rfl, hx, by rw [lenl_eq]⟩
  case nils => cases h; exact .inr (.inl ⟨rfl, hx, rfl⟩)
  case slc i o len c =>
    cases h
    obtain ⟨m, a, cap, _, rfl, _⟩ := hx
    exact .inr (.inr ⟨i, o, c, a, cap, rfl, rfl⟩)

theorem len_ok {t : TypeId} {X r : V} {h h' : H} {xv : Value} (ts : Array TypeId) (ty : TypeId) (ht : ts[0]? = some t) (e : lenV P t X h = .val r h') (hx : VRel μ X xv) :
    h' = h ∧ ∃ rv, (Builtin.len_ ts ty #[xv]).run P w = .ok rv w ∧ VRel μ r rv := by
  obtain ⟨x, rfl, e2⟩ := vS_ne (d := RO.bad) e (by simp)
  cases hT : lenT P t x with
  | false => rw [hT] at e2; cases e2
  | true =>
    rw [hT] at e2
    cases hn : lenOf x with
    | none => rw [hn] at e2; cases e2
    | some n =>
      rw [hn] at e2
      cases e2
      refine ⟨rfl, goInt n, ?_, rfl⟩
      have harr : (#[xv] : Array Value)[0]? = some xv := rfl
      rcases lenOf_rel hn (one_rel hx) with ⟨s, rfl, rfl, rfl⟩ | ⟨rfl, rfl, rfl⟩ | ⟨i, o, c, a, cap, rfl, rfl⟩
      · have hs : isStr P t = true := hT
        simp only [Builtin.len_, ht, harr, Sem.run_bind, run_underlying' (isStr_true hs), Result.andThen_ok, bytesOf_size]
        rfl
      · have hs : (sliceElem P t).isSome = true := hT
        obtain ⟨el, he⟩ := Option.isSome_iff_exists.1 hs
        simp only [Builtin.len_, ht, harr, Sem.run_bind, run_underlying' (sliceElem_some he), Result.andThen_ok]
        rfl
      · have hs : (sliceElem P t).isSome = true := hT
        obtain ⟨el, he⟩ := Option.isSome_iff_exists.1 hs
        simp only [Builtin.len_, ht, harr, Sem.run_bind, run_underlying' (sliceElem_some he), Result.andThen_ok]
        rfl

theorem sliceData_ok {X r : V} {h h' : H} {xv : Value} (ts : Array TypeId) (ty : TypeId) (e : sliceData X h = .val r h') (hx : VRel μ X xv) :
    h' = h ∧ ∃ rv, (Builtin.unsafeSliceData_ ts ty #[xv]).run P w = .ok rv w ∧ VRel μ r rv := by
  obtain ⟨x, rfl, e2⟩ := vS_ne (d := RO.bad) e (by simp)
  rcases sSlc_ne e2 (by simp) with ⟨rfl, e3⟩ | ⟨i, o, n, c, rfl, e3⟩
  · cases e3
    cases one_rel hx
    exact ⟨rfl, .pointer none, rfl, rfl⟩
  · cases n with
    | zero => cases e3
    | succ n =>
      cases e3
      obtain ⟨m, a, cap, hm, rfl, hlc, ha, _⟩ := one_rel hx
      obtain ⟨k, rfl⟩ : ∃ k, cap = k + 1 := ⟨cap - 1, by omega⟩
      rcases ha with ha | rfl
      · omega
      · exact ⟨rfl, _, rfl, m, hm, rfl⟩

theorem capOf_some {v : V} {i : Nat} {x : Value} (h : capOf v = some i) (hx : VRel μ v x) : PtrRel μ i x := by
  obtain ⟨j, o, rfl, h2⟩ := vPtr_ne (d := none) h (by simp)
  cases o with
  | succ o => cases h2
  | zero => cases h2; exact hx
theorem caps_some {vs : List V} {is : List Nat} {xs : List Value} (h : mapo capOf vs = some is) (hx : All2 (VRel μ) vs xs) : All2 (PtrRel μ) is xs := by
  induction vs generalizing is xs with
  | nil => cases h; rw [hx.nil_left]; trivial
  | cons v vs ih =>
    obtain ⟨x, ys, rfl, h1, h2⟩ := hx.cons_left
    obtain ⟨i, h3, h4⟩ := ap_some (o := capOf v) (f := fun y => ap (mapo capOf vs) fun ys => some (y :: ys)) h
    obtain ⟨js, h5, h6⟩ := ap_some h4
    cases h6
    exact ⟨capOf_some h3 h1, ih h5 h2⟩
theorem mkFn_ok {f : FuncId} {a b : List V} {r : V} {h h' : H} {x y : Array Value} (e : mkFn f a b h = .val r h') (ha : All2 (VRel μ) a x.toList) (hb : All2 (VRel μ) b y.toList) :
    h' = h ∧ VRel μ r (.func (.func f) x y) := by
  unfold mkFn at e
  cases h1 : mapo capOf a with
  | none => rw [h1] at e; cases e
  | some i =>
    rw [h1] at e
    cases h2 : mapo capOf b with
    | none => rw [h2] at e; cases e
    | some j =>
      rw [h2] at e
      cases e
      exact ⟨rfl, x, y, rfl, caps_some h1 ha, caps_some h2 hb⟩

end

end Go.Sx
