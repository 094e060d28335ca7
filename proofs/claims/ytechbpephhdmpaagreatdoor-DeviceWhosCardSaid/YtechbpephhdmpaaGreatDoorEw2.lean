/-
  The interpreter's answer: the law comes to true at the numbers 6, 7 and 8. No condition.
-/
import Derived.Test.YtechbpephhdmpaaGreatDoorC0
namespace Go.Proofs.YtechbpephhdmpaaGreatDoor
open Go Go.Sx
theorem who6 : isOne (call ext2L 3 [one (.int .i64 (.ofNat 6))] (H0 6)) (bool true) = true := by kernel_rfl
theorem who7 : isOne (call ext2L 3 [one (.int .i64 (.ofNat 7))] (H0 6)) (bool true) = true := by kernel_rfl
theorem who8 : isOne (call ext2L 3 [one (.int .i64 (.ofNat 8))] (H0 6)) (bool true) = true := by kernel_rfl
end Go.Proofs.YtechbpephhdmpaaGreatDoor
