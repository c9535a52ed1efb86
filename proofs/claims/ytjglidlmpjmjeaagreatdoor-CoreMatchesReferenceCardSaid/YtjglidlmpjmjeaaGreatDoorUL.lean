/- What the card's condition on package variables gives the walks: strconv's table of powers of ten; a start at which it holds. -/
import Derived.Test.YtjglidlmpjmjeaaGreatDoorTie
import Derived.Test.YtjglidlmpjmjeaaGreatDoorCards
import Derived.Test.YtjglidlmpjmjeaaGreatDoorUC
import Derived.MakeChecks
import Derived.Stop.LaidErr
import Derived.Lib.LaidTab
import Derived.LaidMore
import Derived.ProofKit
namespace Go.Proofs.YtjglidlmpjmjeaaGreatDoor
open Go.ChangeShapes Go.WideShapes Go.ChangeAt Go.RowKit

theorem own_knob34 : ownKnob Tryz.prog.godebug = none := by kernel_rfl
theorem tab_of_laid {W : World} (h : laidMetH Tryz.prog Rows.coreRawMatchesReferenceRow.laid W) : Tab10 W := by
 rw [MakeChecks.laidMetH_plain _ _ _ (by kernel_rfl)] at h
 exact Lib.tabIs_of_head (t := 135) (e := 122) (n := 20) (g := 0) (by kernel_rfl) (by kernel_rfl) Tryz.underlying135 Tryz.underlying122 (by kernel_rfl) (by kernel_rfl) (laidMet.tail (laidMet.tail h))
theorem door_met (os : Os) (args : Array Value) : laidMetH Tryz.prog Rows.coreRawMatchesReferenceRow.laid ((World.doorLaid Tryz.prog 24 os).forCall (fun _ _ => 0) ⟨#[], args, []⟩).memory :=
 laidMetH_of_parts3 (fuel := 8) (laidMet_of_run' 8 (by kernel_rfl) (by kernel_rfl)) (by kernel_rfl) (by kernel_rfl)
end Go.Proofs.YtjglidlmpjmjeaaGreatDoor
