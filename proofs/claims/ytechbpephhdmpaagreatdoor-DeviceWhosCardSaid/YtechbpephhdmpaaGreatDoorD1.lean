/-
  THE ROW'S CLOSED FACTS, first part: each by the kernel, each a theorem of its own (together they pass the bound on memory). No condition.
-/
import Derived.Test.YtechbpephhdmpaaGreatDoorRows
import Derived.JoinedOf
import Derived.SevenTiedAt
namespace Go.Proofs.YtechbpephhdmpaaGreatDoor
open Go
theorem fact0 : (Rows.deviceWhosRow.wf (OpenSpec.ofChange Rows.deviceWhosSpec)) = true := by kernel_rfl
theorem fact1 : (laidOutB Tryz.prog) = true := by kernel_rfl
theorem fact2 : (mapsRowed Tryz.prog) = true := by kernel_rfl
theorem fact3 : (Tryz.f3.params.all (Tryz.prog.readableRec ·)) = true := by kernel_rfl
theorem fact4 : (namedTie Tryz.prog Rows.deviceWhosRow.named Rows.deviceWhosSpec.vars) = true := by kernel_rfl
theorem fact5 : (Rows.deviceWhosRow.stops == []) = true := by kernel_rfl
theorem fact6 : (Tryz.prog.stops == []) = true := by kernel_rfl
theorem fact7 : (Rows.deviceWhosRow.knobs == []) = true := by kernel_rfl
theorem fact8 : (Tryz.prog.stopKnobs == []) = true := by kernel_rfl
theorem fact9 : (Rows.deviceWhosRow.inPlace == Tryz.prog.inPlace 3) = true := by kernel_rfl
theorem fact10 : (Rows.deviceWhosRow.unfollowed == Tryz.prog.unfollowed 3) = true := by kernel_rfl
end Go.Proofs.YtechbpephhdmpaaGreatDoor
