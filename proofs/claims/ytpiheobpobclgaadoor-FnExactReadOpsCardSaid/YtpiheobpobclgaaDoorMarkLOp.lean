/- law level: laws.markOpS, laws.heldOpS. Printed by mkmark.py. -/
import Derived.Test.YtpiheobpobclgaaDoorLawM
import Derived.Test.YtpiheobpobclgaaDoorMarkOp
namespace Go.Proofs.YtpiheobpobclgaaDoor
open Go.RowKit

theorem markOpS_l (k0 : Nat) (h0 : 0 < k0) (v : Value) (l : List OpD) (lo hi : Nat) (u : World) (h : OwnIn Cod.op u lo hi v l) (hL : k0 + sumN LOp l ≤ 1073741824) :
    Calls Tryd.prog 21 #[v, .int .i64 (k0 : Int)] u fun e u' => e = .returned (.int .i64 ((k0 + sumN LOp l : Nat) : Int)) ∧ HeldS PT.top u' v k0 (sumN LOp l) ∧ Turn lo hi u u' := by
  obtain ⟨fp, h1, h2, h3, h4⟩ := h.marked fitsOp
  refine (markOpS_p k0 h0 v fp u h1 h2 (by rw [h3]; exact hL)).mono ?_
  rintro e u' ⟨rfl, hs⟩
  exact ⟨by rw [h3], h4 u' k0 hs⟩

end Go.Proofs.YtpiheobpobclgaaDoor
