/- Closed facts of the program that every row of this seat asks: each by itself, for the kernel's memory. -/
import Derived.Test.YtkcidneefdaaiaaCore
namespace Go.Proofs.Ytkcidneefdaaiaa
open Go.ChangeShapes Go.WideShapes Go.ChangeAt Go.RowKit

theorem factEnter : Try.prog.mayEnter = true := by kernel_rfl
theorem factLifts : Try.prog.liftsFinal = false := by kernel_rfl
theorem factMake : Try.prog.make = some .cut := by kernel_rfl

end Go.Proofs.Ytkcidneefdaaiaa
