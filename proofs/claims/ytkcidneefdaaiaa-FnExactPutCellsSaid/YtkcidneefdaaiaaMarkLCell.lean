/- law level: laws.markCellS, laws.heldCellS. Printed by mkmark.py. -/
import Derived.Test.YtkcidneefdaaiaaLawM
import Derived.Test.YtkcidneefdaaiaaMarkCell
namespace Go.Proofs.Ytkcidneefdaaiaa
open Go.RowKit

theorem markCellS_l (k0 : Nat) (h0 : 0 < k0) (v : Value) (l : List CellD) (lo hi : Nat) (u : World) (h : OwnIn Cod.cell u lo hi v l) (hL : k0 + sumN LCell l ≤ 1073741824) :
    Calls Try.prog 17 #[v, .int .i64 (k0 : Int)] u fun e u' => e = .returned (.int .i64 ((k0 + sumN LCell l : Nat) : Int)) ∧ HeldS PT.tcell u' v k0 (sumN LCell l) ∧ Turn lo hi u u' := by
  obtain ⟨fp, h1, h2, h3, h4⟩ := h.marked fitsCell
  refine (markCellS_p k0 h0 v fp u h1 h2 (by rw [h3]; exact hL)).mono ?_
  rintro e u' ⟨rfl, hs⟩
  exact ⟨by rw [h3], h4 u' k0 hs⟩

end Go.Proofs.Ytkcidneefdaaiaa
