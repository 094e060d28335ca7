/-
  The interpreter's answer: the law comes to true at the numbers 0, 1 and 2. No condition.
-/
import Derived.Test.YtechbpephhdmpaaGreatDoorC0
namespace Go.Proofs.YtechbpephhdmpaaGreatDoor
open Go Go.Sx
theorem who0 : isOne (call ext2L 3 [one (.int .i64 (.ofNat 0))] (H0 6)) (bool true) = true := by kernel_rfl
theorem who1 : isOne (call ext2L 3 [one (.int .i64 (.ofNat 1))] (H0 6)) (bool true) = true := by kernel_rfl
theorem who2 : isOne (call ext2L 3 [one (.int .i64 (.ofNat 2))] (H0 6)) (bool true) = true := by kernel_rfl
end Go.Proofs.YtechbpephhdmpaaGreatDoor
