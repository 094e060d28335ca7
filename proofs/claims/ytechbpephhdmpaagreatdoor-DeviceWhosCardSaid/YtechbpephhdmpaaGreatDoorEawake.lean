/-
  The interpreter's answer: the chapter's examples ('awake') come to true. No condition.
-/
import Derived.Test.YtechbpephhdmpaaGreatDoorC0
namespace Go.Proofs.YtechbpephhdmpaaGreatDoor
open Go Go.Sx
theorem evAwake : isOne (call ext1L 7 [] (H0 0)) (bool true) = true := by kernel_rfl
end Go.Proofs.YtechbpephhdmpaaGreatDoor
