/-
  THE ROW'S CLOSED FACTS, third part: each by the kernel, each a theorem of its own (together they pass the bound on memory). No condition.
-/
import Derived.Test.YtechbpephhdmpaaGreatDoorRows
import Derived.Test.YtechbpephhdmpaaGreatDoorCards
import Derived.JoinedOf
import Derived.SevenTiedAt
namespace Go.Proofs.YtechbpephhdmpaaGreatDoor
open Go
theorem factText : Rows.deviceWhosRow.wfByText (OpenSpec.ofChange Rows.deviceWhosSpec) = true := by kernel_rfl
theorem factMain : Tryz.pinned.checked.prog.mainIs = some (true, "d3d0351abb8a92d4705fad83452d00f30e7532812e7355c88f67a71ef65cc4c9".toList) := by kernel_rfl
theorem factNamed : Tryz.pinned.checked.prog.funcNamed "arbour/arbourlaw24.DeviceWhos" = some 3 := by kernel_rfl
theorem factLooks : true = Tryz.pinned.checked.prog.looks [] := by kernel_rfl
theorem factStand : ([3].all fun u => !Tryz.prog.wantsStandIn u) = true := by kernel_rfl
theorem factWrap : Tryz.f3.isWrapper Tryz.pinned.checked.prog Rows.deviceWhosRow.wrapper Rows.deviceWhosRow.mainSum := by
  unfold Func.isWrapper
  first
    | (rw [if_pos (by decide +kernel)]; kernel_rfl)
    | (rw [if_neg (by decide +kernel)]; exact ⟨rfl, rfl⟩)
theorem factInst : Tryz.f3.isInstance Tryz.pinned.checked.prog Rows.deviceWhosRow.origin Rows.deviceWhosRow.targs := of_decide_eq_true (by kernel_rfl)
theorem factNoGo : Tryz.prog.funcs.any Func.goes = false := by kernel_rfl
theorem goesNot (f : FuncId) : Tryz.prog.goes f = false := by
  unfold Program.goes
  rw [factNoGo, Bool.and_false, Bool.or_false, List.any_eq_false]
  intro g _ h
  cases hg : Tryz.prog.funcs[g]? with
  | none => rw [hg] at h; cases h
  | some fn =>
    rw [hg] at h
    have h1 : fn.goes = true := h
    have h2 := factNoGo
    rw [Array.any_eq_false] at h2
    obtain ⟨hlt, he⟩ := Array.getElem?_eq_some_iff.1 hg
    exact h2 g hlt (by rw [he]; exact h1)
theorem goes_of {P : Program} (h : ∀ f, P.goes f = false) {c : OpenClaim} (hc : c.start = .entering) : c.goesBy P = false := by
  unfold OpenClaim.goesBy Program.goesAt Program.goesFrom
  rw [hc, Bool.or_false]
  cases P.funcNamed c.func with
  | none => rfl
  | some f => exact h f
theorem factGoes : false = Rows.deviceWhosRow.goesBy Tryz.pinned.checked.prog := (goes_of (P := Tryz.prog) goesNot rfl).symm
end Go.Proofs.YtechbpephhdmpaaGreatDoor
