/-
  The interpreter's answer: the law comes to true at the numbers 9, 10 and 11. No condition.
-/
import Derived.Test.YtechbpephhdmpaaGreatDoorC0
namespace Go.Proofs.YtechbpephhdmpaaGreatDoor
open Go Go.Sx
theorem who9 : isOne (call ext2L 3 [one (.int .i64 (.ofNat 9))] (H0 6)) (bool true) = true := by kernel_rfl
theorem who10 : isOne (call ext2L 3 [one (.int .i64 (.ofNat 10))] (H0 6)) (bool true) = true := by kernel_rfl
theorem who11 : isOne (call ext2L 3 [one (.int .i64 (.ofNat 11))] (H0 6)) (bool true) = true := by kernel_rfl
end Go.Proofs.YtechbpephhdmpaaGreatDoor
