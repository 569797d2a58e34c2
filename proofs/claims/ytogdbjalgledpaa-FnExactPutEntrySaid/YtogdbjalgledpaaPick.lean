/- A list, or none. Printed by mkfresh.py. -/
import Derived.Test.YtogdbjalgledpaaKit
import Derived.Test.YtogdbjalgledpaaData
namespace Go.Proofs.Ytogdbjalgledpaa
open Go.RowKit

def pickL {α : Type} : Bool → List α → List α
  | true, l => l
  | false, _ => []
theorem own_nil {α : Type} (c : Cod α) (w : World) (base : Nat) : Own c w base (.slice none 0 0) (pickL false ([] : List α)) := ⟨[], ⟨none, 0, rfl, Nat.le_refl _, Nat.zero_le _, fun _ => rfl, Or.inl ⟨rfl, rfl⟩⟩, Mine.nil _ _⟩
theorem pick_costString (q : Bool) (l : List ByteArray) : costStringS (pickL q l) ≤ costStringS l := by
  cases q
  · show costStringS [] ≤ _
    unfold costStringS
    simp [sumC]
  · exact Nat.le_refl _
theorem pick_costWrite (q : Bool) (l : List WriteD) : costWriteS (pickL q l) ≤ costWriteS l := by
  cases q
  · show costWriteS [] ≤ _
    unfold costWriteS
    simp [sumC]
  · exact Nat.le_refl _
theorem pick_costVer (q : Bool) (l : List VerD) : costVerS (pickL q l) ≤ costVerS l := by
  cases q
  · show costVerS [] ≤ _
    unfold costVerS
    simp [sumC]
  · exact Nat.le_refl _
theorem pick_costOp (q : Bool) (l : List OpD) : costOpS (pickL q l) ≤ costOpS l := by
  cases q
  · show costOpS [] ≤ _
    unfold costOpS
    simp [sumC]
  · exact Nat.le_refl _
theorem pick_costCell (q : Bool) (l : List CellD) : costCellS (pickL q l) ≤ costCellS l := by
  cases q
  · show costCellS [] ≤ _
    unfold costCellS
    simp [sumC]
  · exact Nat.le_refl _

end Go.Proofs.Ytogdbjalgledpaa
