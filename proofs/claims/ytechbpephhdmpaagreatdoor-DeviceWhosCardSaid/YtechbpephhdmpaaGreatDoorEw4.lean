/-
  The interpreter's answer: the law comes to true at the numbers 12, 13 and 14. No condition.
-/
import Derived.Test.YtechbpephhdmpaaGreatDoorC0
namespace Go.Proofs.YtechbpephhdmpaaGreatDoor
open Go Go.Sx
theorem who12 : isOne (call ext2L 3 [one (.int .i64 (.ofNat 12))] (H0 6)) (bool true) = true := by kernel_rfl
theorem who13 : isOne (call ext2L 3 [one (.int .i64 (.ofNat 13))] (H0 6)) (bool true) = true := by kernel_rfl
theorem who14 : isOne (call ext2L 3 [one (.int .i64 (.ofNat 14))] (H0 6)) (bool true) = true := by kernel_rfl
end Go.Proofs.YtechbpephhdmpaaGreatDoor
