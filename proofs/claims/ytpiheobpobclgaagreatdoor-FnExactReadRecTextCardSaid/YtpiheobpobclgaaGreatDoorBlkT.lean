/- A box behind marks. Plain; no program. -/
import Derived.Test.YtpiheobpobclgaaGreatDoorBlk
import Derived.Test.YtpiheobpobclgaaGreatDoorLawM
namespace Go.Proofs.YtpiheobpobclgaaGreatDoor
open Go.RowKit
theorem Blk.turn {w w' : World} {B lo hi : Nat} {e : TypeId} {cs : Array Value} (h : Blk w B e cs) (t : Turn lo hi w w') (hB : B < lo ∨ hi ≤ B) : Blk w' B e cs := h.of (t.block _ h.lt hB)

end Go.Proofs.YtpiheobpobclgaaGreatDoor
