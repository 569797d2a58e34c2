/- Closed facts of the program that every row of this seat asks: each by itself, for the kernel's memory. -/
import Derived.Test.YtpiheobpobclgaaGreatDoorCore
namespace Go.Proofs.YtpiheobpobclgaaGreatDoor
open Go.ChangeShapes Go.WideShapes Go.ChangeAt Go.RowKit

theorem factEnter : Tryz.prog.mayEnter = true := by kernel_rfl
theorem factLifts : Tryz.prog.liftsFinal = false := by kernel_rfl
theorem factMake : Tryz.prog.make = some .cut := by kernel_rfl

end Go.Proofs.YtpiheobpobclgaaGreatDoor
