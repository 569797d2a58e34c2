/- law level: laws.markWriteS, laws.heldWriteS. Printed by mkmark.py. -/
import Derived.Test.YtibgpjkpfakgiaaLawM
import Derived.Test.YtibgpjkpfakgiaaMarks
namespace Go.Proofs.Ytibgpjkpfakgiaa
open Go.RowKit

theorem markWriteS_l (k0 : Nat) (h0 : 0 < k0) (v : Value) (l : List WriteD) (lo hi : Nat) (u : World) (h : OwnIn Cod.write u lo hi v l) (hL : k0 + sumN LWrite l ≤ 1073741824) :
    Calls Try.prog 22 #[v, .int .i64 (k0 : Int)] u fun e u' => e = .returned (.int .i64 ((k0 + sumN LWrite l : Nat) : Int)) ∧ HeldS PT.twrite u' v k0 (sumN LWrite l) ∧ Turn lo hi u u' := by
  obtain ⟨fp, h1, h2, h3, h4⟩ := h.marked fitsWrite
  refine (markWriteS_p k0 h0 v fp u h1 h2 (by rw [h3]; exact hL)).mono ?_
  rintro e u' ⟨rfl, hs⟩
  exact ⟨by rw [h3], h4 u' k0 hs⟩

end Go.Proofs.Ytibgpjkpfakgiaa
