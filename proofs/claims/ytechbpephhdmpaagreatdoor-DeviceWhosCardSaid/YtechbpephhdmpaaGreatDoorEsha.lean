/-
  The interpreter's answer: sha.Sum at the text 'x', from no memory at all. No condition.
-/
import Derived.Test.YtechbpephhdmpaaGreatDoorC0
namespace Go.Proofs.YtechbpephhdmpaaGreatDoor
open Go Go.Sx
theorem evSha : isOne (call ext0L 100 [one (.str [120])] (H0 0)) (one (.str shaX)) = true := by kernel_rfl
end Go.Proofs.YtechbpephhdmpaaGreatDoor
