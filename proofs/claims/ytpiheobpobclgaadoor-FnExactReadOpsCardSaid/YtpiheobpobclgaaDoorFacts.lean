/- Closed facts of the program that every row of this seat asks: each by itself, for the kernel's memory. -/
import Derived.Test.YtpiheobpobclgaaDoorCore
namespace Go.Proofs.YtpiheobpobclgaaDoor
open Go.ChangeShapes Go.WideShapes Go.ChangeAt Go.RowKit

theorem factEnter : Tryd.prog.mayEnter = true := by kernel_rfl
theorem factLifts : Tryd.prog.liftsFinal = false := by kernel_rfl
theorem factMake : Tryd.prog.make = some .cut := by kernel_rfl

end Go.Proofs.YtpiheobpobclgaaDoor
