/- The law FnExactNumberIn walked. -/
import Derived.Test.YtpiheobpobclgaaDoorNumG
namespace Go.Proofs.YtpiheobpobclgaaDoor.fnExactNumberIn
open Go.RowKit

set_option maxRecDepth 100000 in
theorem walk {w : World} (y0 : ByteArray) (by0 : y0.size ≤ maxLen) (hT : TabW w) (hE : ErrW w) : Calls Tryd.prog 4 #[.string y0] w fun e w' => e = .returned (.bool true) ∧ Below w.heap.size w w' := by
  by_cases hs0 : y0.size ≤ 1048576
  rotate_left
  · have hs1 : (1048576 : Int) < (y0.size : Int) := by omega
    have hs2 : (y0.size : Int) ≤ 9223372036854775807 := by unfold maxLen at by0; omega
    go_enter Tryd.func4, Tryd.ntmps4
    go_wp2
    go_ret
    exact ⟨rfl, by (repeat (first | (with_reducible exact Below.refl _ _) | (with_reducible refine below_setCell ?_ (by first | (simp; done) | (simp; omega) | omega)) | (with_reducible refine below_alloc _ ?_) | (with_reducible refine below_drewN ?_ _) | (with_reducible assumption) | (with_reducible refine below_after (by assumption) ?_)))⟩
  have hs1 : (y0.size : Int) ≤ 1048576 := by omega
  have HS := Lib.hid (fun W => numberInS_any y0 hs0 W)
  have HI := Lib.hid (fun (W : World) (k : Below w.heap.size w W) => numberIn_any y0 hs0 W (hT.on k) (hE.on k))
  generalize readS y0.data.toList = R at *
  obtain ⟨n, q⟩ := R
  dsimp only at *
  go_enter Tryd.func4, Tryd.ntmps4
  go_wp2_with fail
  refine (HS.out _).mono ?_
  rintro e w1 ⟨rfl, rfl⟩
  go_wp2_with fail
  refine (HI.out _ (Below.refl _ _)).mono ?_
  rintro e w1 ⟨rfl, k1⟩
  go_wp2
  go_ret
  exact ⟨rfl, k1⟩

end Go.Proofs.YtpiheobpobclgaaDoor.fnExactNumberIn
