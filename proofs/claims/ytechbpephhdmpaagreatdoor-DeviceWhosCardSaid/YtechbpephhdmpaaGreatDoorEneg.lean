/-
  The interpreter's answer: the law comes to true at every number below 0 and at every number above 14. No condition.
-/
import Derived.Test.YtechbpephhdmpaaGreatDoorC0
namespace Go.Proofs.YtechbpephhdmpaaGreatDoor
open Go Go.Sx
theorem whoNeg (m : Nat) : isOne (call ext2L 3 [one (.int .i64 (.negSucc m))] (H0 6)) (bool true) = true := by kernel_rfl
theorem whoBig (m : Nat) : isOne (call ext2L 3 [one (.int .i64 (.ofNat (m + 15)))] (H0 6)) (bool true) = true := by kernel_rfl
end Go.Proofs.YtechbpephhdmpaaGreatDoor
