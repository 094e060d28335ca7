/-
  The interpreter's answer: the function that makes the table of crc's steps, from a table of zeros. No condition.
-/
import Derived.Test.YtechbpephhdmpaaGreatDoorC0
namespace Go.Proofs.YtechbpephhdmpaaGreatDoor
open Go Go.Sx
noncomputable def isTab (r : RC) : Bool := RC.casesOn r (fun _ => false) (fun v h => andb (sameV v undef') (andb (sameO (h.get 0) (.row 368 [.ptr 1 0] false)) (sameO (h.get 1) (.row 380 post false)))) (fun _ => false)
theorem evTab : isTab (call ext0L 345 [one (.ptr 0 0)] (tabH 368 380 pre)) = true := by kernel_rfl
end Go.Proofs.YtechbpephhdmpaaGreatDoor
