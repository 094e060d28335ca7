/-
  THE ROW'S CLOSED FACTS, third part: each by the kernel, each a theorem of its own (together they pass the bound on memory). No condition.
-/
import Derived.Test.YtechbpephhdmpaaGreatDoorRows
import Derived.Test.YtechbpephhdmpaaGreatDoorCards
import Derived.JoinedOf
import Derived.SevenTiedAt
namespace Go.Proofs.YtechbpephhdmpaaGreatDoor
open Go
theorem factText : Rows.deviceWhosRow.wfByText (OpenSpec.ofChange Rows.deviceWhosSpec) = true := by kernel_rfl
theorem factMain : Tryz.pinned.checked.prog.mainIs = some (true, "d3d0351abb8a92d4705fad83452d00f30e7532812e7355c88f67a71ef65cc4c9".toList) := by kernel_rfl
theorem factNamed : Tryz.pinned.checked.prog.funcNamed "arbour/arbourlaw24.DeviceWhos" = some 3 := by kernel_rfl
theorem factLooks : true = Tryz.pinned.checked.prog.looks [] := by kernel_rfl
theorem factStand : ([3].all fun u => !Tryz.prog.wantsStandIn u) = true := by kernel_rfl
theorem factWrap : Tryz.f3.isWrapper Tryz.pinned.checked.prog Rows.deviceWhosRow.wrapper Rows.deviceWhosRow.mainSum := by
  unfold Func.isWrapper
  first
    | (rw [if_pos (by decide +kernel)]; kernel_rfl)
    | (rw [if_neg (by decide +kernel)]; exact ⟨rfl, rfl⟩)
theorem factInst : Tryz.f3.isInstance Tryz.pinned.checked.prog Rows.deviceWhosRow.origin Rows.deviceWhosRow.targs := of_decide_eq_true (by kernel_rfl)
theorem factGoes : false = Rows.deviceWhosRow.goesBy Tryz.pinned.checked.prog := by kernel_rfl
end Go.Proofs.YtechbpephhdmpaaGreatDoor
