/-
  The interpreter's answer: the law comes to true at the numbers 3, 4 and 5. No condition.
-/
import Derived.Test.YtechbpephhdmpaaGreatDoorC0
namespace Go.Proofs.YtechbpephhdmpaaGreatDoor
open Go Go.Sx
theorem who3 : isOne (call ext2L 3 [one (.int .i64 (.ofNat 3))] (H0 6)) (bool true) = true := by kernel_rfl
theorem who4 : isOne (call ext2L 3 [one (.int .i64 (.ofNat 4))] (H0 6)) (bool true) = true := by kernel_rfl
theorem who5 : isOne (call ext2L 3 [one (.int .i64 (.ofNat 5))] (H0 6)) (bool true) = true := by kernel_rfl
end Go.Proofs.YtechbpephhdmpaaGreatDoor
