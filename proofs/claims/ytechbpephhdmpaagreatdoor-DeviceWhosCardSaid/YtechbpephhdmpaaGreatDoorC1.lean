/-
  THE LAW'S RUN, second part: what the interpreter's answer says of the program.
-/
import Derived.Test.YtechbpephhdmpaaGreatDoorC0
namespace Go.Proofs.YtechbpephhdmpaaGreatDoor
open Go Go.Sx

theorem mix : Tryz.prog.follows .mixedOrders = true := by kernel_rfl
theorem names : NameOk Tryz.prog := by
  intro f fn hf
  have h : (Tryz.prog.funcs.all fun fn => fn.name != "runtime.NumGoroutine") = true := by kernel_rfl
  rw [Array.all_eq_true_iff_forall_mem] at h
  have := h fn (Array.mem_of_getElem? hf)
  simpa using this

theorem lk_mem {l : List (Nat × X)} {f : Nat} {x : X} (h : lk l f = some x) : (f, x) ∈ l := by
  induction l with
  | nil => cases h
  | cons p l ih =>
    have h' : (Bool.casesOn (Nat.beq p.1 f) (lk l f) (some p.2) : Option X) = some x := h
    cases hb : Nat.beq p.1 f with
    | true =>
      rw [hb] at h'
      have h2 : some p.2 = some x := h'
      rw [Nat.beq_eq] at hb
      cases p
      cases h2
      cases hb
      simp
    | false =>
      rw [hb] at h'
      exact List.mem_cons_of_mem _ (ih h')

theorem H0_live (n i : Nat) : (H0 n).get i = .gone := H0_get n i
theorem H0_rel {n : Nat} (hn : n ≤ most) (w : World) : HRel (fun _ => none) (H0 n) w :=
  ⟨(Tr.full_ok _ _ : (Tr.full O.gone hdepth).Ok hdepth), hn, fun i m hm => (by cases hm), fun i _ hl => absurd (H0_live n i) hl, fun i _ _ _ _ _ hl => absurd (H0_live n i) hl⟩
theorem grew_of {n : Nat} {μ μ' : Mu} {w w' : World} {h' : H} (hf : Fr (H0 n) μ w h' μ' w') : Grew w w' :=
  ⟨hf.size, fun b hb => hf.keep b hb fun i _ _ hl => absurd (H0_live n i) hl, hf.os, hf.tape, hf.output⟩

set_option maxRecDepth 100000 in
/-- a call's contract, out of the interpreter's answer -/
theorem contractN (N : Nat) {l : List (Nat × X)} (hext : ExtOk Tryz.prog (lk l)) {f : FuncId} (hb : hasBody Tryz.prog f = true) {args : List V} {h : H} {ends : List (V × H)} (he : (callN N l f args h).list = some ends)
    {argv : Array Value} {μ : Mu} {w : World} (ha : All2 (VRel μ) args argv.toList) (hr : HRel μ h w) {R : Value → World → Prop} (hp : CallPost h μ w ends R) (k : Nat) : CallsIn Fence.wide k Tryz.prog f argv w (retPost R) := by
  obtain ⟨_, hc⟩ := run_ok mix names hext loc N
  obtain ⟨d, hd, hup⟩ := hc (one (.fn f [] [])) args h ends he (.func (.func f) #[] #[]) argv μ w ⟨#[], #[], rfl, trivial, trivial⟩ ha hr
  have hd' := ofValue_fn hd
  subst hd'
  have hu := hup R hp
  have hinv : (invoke (.fn (.func f) #[]) (#[] ++ argv)).run Tryz.prog w = .ok (.enter f argv) w := by
    rw [invoke_body names hb]
    simp
  rw [hinv] at hu
  exact CallsIn.mono (hu k) fun e w' he => by
    cases e with
    | returned v => exact he
    | panicked c => exact he
    | outgrown => exact he
theorem contract {l : List (Nat × X)} (hext : ExtOk Tryz.prog (lk l)) {f : FuncId} (hb : hasBody Tryz.prog f = true) {args : List V} {h : H} {ends : List (V × H)} (he : (call l f args h).list = some ends)
    {argv : Array Value} {μ : Mu} {w : World} (ha : All2 (VRel μ) args argv.toList) (hr : HRel μ h w) {R : Value → World → Prop} (hp : CallPost h μ w ends R) (k : Nat) : CallsIn Fence.wide k Tryz.prog f argv w (retPost R) := by
  unfold call at he
  exact contractN _ hext hb he ha hr hp k

theorem isOne_list {r : RC} {v : V} (h : isOne r v = true) : ∃ h', r.list = some [(v, h')] := by
  cases r with
  | bad m => cases h
  | many l => cases h
  | one u h' => exact ⟨h', by rw [show u = v from sameV_true h]; rfl⟩

/-- .. from no memory at all, to a value of no memory -/
theorem closed {l : List (Nat × X)} (hext : ExtOk Tryz.prog (lk l)) {f : FuncId} (hb : hasBody Tryz.prog f = true) {args : List V} {n : Nat} (hn : n ≤ most) {v : V} (he : isOne (call l f args (H0 n)) v = true)
    {argv : Array Value} (ha : All2 (VRel fun _ => none) args argv.toList) {rv : Value} (hv : ∀ μ x, VRel μ v x → x = rv) (w : World) (k : Nat) :
    CallsIn Fence.wide k Tryz.prog f argv w (retPost fun x w' => x = rv ∧ Grew w w') := by
  obtain ⟨h', hl⟩ := isOne_list he
  refine contract hext hb hl ha (H0_rel hn w) (fun v' h2 hm x w' μ' h1 _ h3 => ?_) k
  have hm' : (v', h2) = (v, h') := by simpa using hm
  cases hm'
  exact ⟨hv _ _ h1, grew_of h3⟩

theorem rel_str {a : List Nat} (μ : Mu) (x : Value) (h : VRel μ (one (.str a)) x) : x = strV a := h
theorem rel_true (μ : Mu) (x : Value) (h : VRel μ (bool true) x) : x = .bool true := by
  have h' : VRel μ (one (.bool true)) x := h
  exact h'

/-! ### functions without a body -/

theorem ext0 : ExtOk Tryz.prog (lk ext0L) := by
  intro f x h
  have hm := lk_mem h
  simp only [ext0L, List.mem_cons, Prod.mk.injEq, List.not_mem_nil, or_false] at hm
  rcases hm with ⟨rfl, rfl⟩ | ⟨rfl, rfl⟩ | ⟨rfl, rfl⟩ | ⟨rfl, rfl⟩ | ⟨rfl, rfl⟩ | ⟨rfl, rfl⟩ | ⟨rfl, rfl⟩ | ⟨rfl, rfl⟩ | ⟨rfl, rfl⟩ | ⟨rfl, rfl⟩ | ⟨rfl, rfl⟩ | ⟨rfl, rfl⟩ | ⟨rfl, rfl⟩ | ⟨rfl, rfl⟩
  · exact ⟨Tryz.f148, Extern.AbiNoEscape.same, Tryz.func148, rfl, (by kernel_rfl), (by kernel_rfl), rfl⟩
  · exact ⟨Tryz.f258, Extern.BytealgCount.count, Tryz.func258, rfl, (by kernel_rfl), (by kernel_rfl), rfl⟩
  · exact ⟨Tryz.f339, Extern.BytealgIndexByte.indexByte, Tryz.func339, rfl, (by kernel_rfl), (by kernel_rfl), rfl⟩
  · exact ⟨Tryz.f364, Extern.Atomic.loadT (.int .u32), Tryz.func364, rfl, (by kernel_rfl), (by kernel_rfl), rfl⟩
  · exact ⟨Tryz.f171, Extern.Atomic.loadT (.int .i64), Tryz.func171, rfl, (by kernel_rfl), (by kernel_rfl), rfl⟩
  · exact ⟨Tryz.f373, Extern.Atomic.storeT, Tryz.func373, rfl, (by kernel_rfl), (by kernel_rfl), rfl⟩
  · exact ⟨Tryz.f377, Extern.Atomic.casT (.int .i32), Tryz.func377, rfl, (by kernel_rfl), (by kernel_rfl), rfl⟩
  · exact ⟨Tryz.f382, Extern.Atomic.update (Op.intArith .add) .i32 true, Tryz.func382, rfl, (by kernel_rfl), (by kernel_rfl), rfl⟩
  · exact ⟨Tryz.f102, Extern.Atomic.update (Op.intArith .add) .i64 true, Tryz.func102, rfl, (by kernel_rfl), (by kernel_rfl), rfl⟩
  · exact ⟨Tryz.f214, Extern.MapsClone.clone, Tryz.func214, rfl, (by kernel_rfl), (by kernel_rfl), rfl⟩
  · exact ⟨Tryz.f376, fun _ => do mark .disable; pure undef, Tryz.func376, rfl, (by kernel_rfl), (by kernel_rfl), ⟨_, rfl⟩⟩
  · exact ⟨Tryz.f378, fun _ => do mark .enable; pure undef, Tryz.func378, rfl, (by kernel_rfl), (by kernel_rfl), ⟨_, rfl⟩⟩
  · exact ⟨Tryz.f379, Extern.Race.marked .acquire, Tryz.func379, rfl, (by kernel_rfl), (by kernel_rfl), ⟨_, rfl⟩⟩
  · exact ⟨Tryz.f381, Extern.Race.marked .releaseMerge, Tryz.func381, rfl, (by kernel_rfl), (by kernel_rfl), ⟨_, rfl⟩⟩

end Go.Proofs.YtechbpephhdmpaaGreatDoor
