/-
  THE ROW'S CLOSED FACTS, second part: each by the kernel, each a theorem of its own (together they pass the bound on memory). No condition.
-/
import Derived.Test.YtechbpephhdmpaaGreatDoorRows
import Derived.JoinedOf
import Derived.SevenTiedAt
namespace Go.Proofs.YtechbpephhdmpaaGreatDoor
open Go
theorem fact11 : (Rows.deviceWhosRow.recurses == Tryz.prog.recurses 3) = true := by kernel_rfl
theorem fact12 : (Rows.deviceWhosRow.named == Tryz.prog.varsNamed 3) = true := by kernel_rfl
theorem fact13 : (Rows.deviceWhosRow.maps == (Tryz.f3.params.toList ++ Rows.deviceWhosSpec.plain.varTypes Tryz.prog).any (Tryz.prog.mapsRec ·)) = true := by kernel_rfl
theorem fact14 : (Rows.deviceWhosRow.ifaces == (Tryz.f3.params.toList ++ Rows.deviceWhosSpec.plain.varTypes Tryz.prog).any (Tryz.prog.ifacesRec ·)) = true := by kernel_rfl
theorem fact15 : (Rows.deviceWhosRow.mapsOut == Tryz.prog.mapsAmong Tryz.f3.resultTypes.toList) = true := by kernel_rfl
theorem fact16 : (Rows.deviceWhosRow.loops == (Tryz.f3.params.toList ++ Rows.deviceWhosSpec.plain.varTypes Tryz.prog).any (Tryz.prog.loopsFrom ·)) = true := by kernel_rfl
theorem fact17 : (Rows.deviceWhosRow.wideKeys == (Tryz.f3.params.toList ++ Rows.deviceWhosSpec.plain.varTypes Tryz.prog ++ Tryz.f3.resultTypes.toList).any (Tryz.prog.wideKeysFrom ·)) = true := by kernel_rfl
theorem fact18 : (Rows.deviceWhosSpec.vars.all (Tryz.prog.varReadable ·)) = true := by kernel_rfl
theorem fact19 : (Tryz.f3.resultTypes.all (fun t => Tryz.prog.readableRec t && decide (t < Tryz.prog.types.size))) = true := by kernel_rfl
theorem fact20 : (Rows.deviceWhosRow.ifacesOut == Tryz.f3.resultTypes.toList.any (Tryz.prog.ifacesRec ·)) = true := by kernel_rfl
theorem fact21 : (Rows.deviceWhosRow.loopsOut == Tryz.f3.resultTypes.toList.any (Tryz.prog.loopsFrom ·)) = true := by kernel_rfl
theorem fact22 : (Rows.deviceWhosRow.plainKeys == Tryz.prog.plainKeys) = true := by kernel_rfl
theorem fact23 : (Rows.deviceWhosRow.shortTexts.isNone) = true := by kernel_rfl
theorem fact24 : (Tryz.prog.stopsHeard) = true := by kernel_rfl
theorem fact25 : (Tryz.prog.mayEnter) = true := by kernel_rfl
theorem fact26 : (Rows.deviceWhosRow.lifted == Tryz.prog.liftsFinal) = true := by kernel_rfl
theorem fact27 : (Tryz.prog.make == some Rows.deviceWhosRow.make) = true := by kernel_rfl
theorem fact28 : (Rows.deviceWhosRow.kinds == (if Rows.deviceWhosRow.domain.isEmpty then [] else Tryz.f3.params.toList.map fun t => match Tryz.prog.underlying t with | some (.int k) => some k | _ => none)) = true := by kernel_rfl
theorem fact29 : (Rows.deviceWhosRow.pinned == Rows.deviceWhosRow.pinnedBy) = true := by kernel_rfl
theorem fact30 : (Rows.deviceWhosRow.veiled == (Tryz.f3.params.toList ++ Rows.deviceWhosSpec.plain.varTypes Tryz.prog ++ Tryz.f3.resultTypes.toList).any (Tryz.prog.veiledRec ·)) = true := by kernel_rfl
theorem fact31 : (Rows.deviceWhosRow.veiledFits Tryz.prog Tryz.f3.params.toList (Tryz.f3.params.toList ++ Rows.deviceWhosSpec.plain.varTypes Tryz.prog ++ Tryz.f3.resultTypes.toList)) = true := by kernel_rfl
end Go.Proofs.YtechbpephhdmpaaGreatDoor
