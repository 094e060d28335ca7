/-
  THE LAW'S RUN, fourth part: the law is true of every number.
-/
import Derived.Test.YtechbpephhdmpaaGreatDoorC2
import Derived.Test.YtechbpephhdmpaaGreatDoorEneg
import Derived.Test.YtechbpephhdmpaaGreatDoorEw0
import Derived.Test.YtechbpephhdmpaaGreatDoorEw1
import Derived.Test.YtechbpephhdmpaaGreatDoorEw2
import Derived.Test.YtechbpephhdmpaaGreatDoorEw3
import Derived.Test.YtechbpephhdmpaaGreatDoorEw4
import Derived.RowKit3
namespace Go.Proofs.YtechbpephhdmpaaGreatDoor
open Go Go.Sx Go.RowKit

theorem whoAll (a : Int) : isOne (call ext2L 3 [one (.int .i64 a)] (H0 6)) (bool true) = true := by
  cases a with
  | negSucc m => exact whoNeg m
  | ofNat n =>
    match n with
    | 0 => exact who0
    | 1 => exact who1
    | 2 => exact who2
    | 3 => exact who3
    | 4 => exact who4
    | 5 => exact who5
    | 6 => exact who6
    | 7 => exact who7
    | 8 => exact who8
    | 9 => exact who9
    | 10 => exact who10
    | 11 => exact who11
    | 12 => exact who12
    | 13 => exact who13
    | 14 => exact who14
    | n + 15 => exact whoBig n

theorem grew_kept {w w' : World} (h : Grew w w') (may : MemPlace → Prop) : w.keptBut w' may := by
  obtain ⟨_, h2, h3, _, h5⟩ := h
  refine ⟨h3, h5, fun i hi => ?_⟩
  rw [h2 i hi]
  exact (World.keptBut_refl w may).2.2 i hi

theorem walk (a : Int) (w : World) : Calls Tryz.prog 3 #[.int .i64 a] w fun e w' => e = .returned (.bool true) ∧ Grew w w' := by
  have h := closed ext2 body3 (by decide) (whoAll a) (argv := #[.int .i64 a]) ⟨rfl, trivial⟩ rel_true w 0
  rw [← callsIn_wide (n := 0)]
  exact CallsIn.mono h fun e w' he => by
    cases e with
    | returned v => obtain ⟨rfl, h2⟩ := he; exact ⟨rfl, h2⟩
    | panicked c => exact he.elim
    | outgrown => exact he.elim

end Go.Proofs.YtechbpephhdmpaaGreatDoor
