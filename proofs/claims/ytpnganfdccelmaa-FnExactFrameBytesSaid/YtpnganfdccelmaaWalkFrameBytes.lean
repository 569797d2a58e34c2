/- The law FnExactFrameBytes walked: it returns true, and nothing that was there has turned. -/
import Derived.Test.YtpnganfdccelmaaDisk3
namespace Go.Proofs.Ytpnganfdccelmaa.fnExactFrameBytes
open Go.RowKit

/-- The walk. -/
theorem walk (s : ByteArray) (hs : s.size ≤ maxLen) (w : World) : Calls Try.prog 13 #[.string s] w fun e w' => e = .returned (.bool true) ∧ Below w.heap.size w w' := by
  have Hc := Lib.hid (expFrameBytesS_any s hs)
  have Hd := Lib.hid (expFrameBytes_any s hs)
  generalize frameR s = r at *
  unfold maxLen at hs
  by_cases hq : s.size ≤ 1048576
  · go_enter Try.func13, Try.ntmps13
    go_wp2_with (first | (go_at_call 40; refine (Hc.out _).mono ?_; rintro e w1 ⟨rfl, hb1⟩) | (go_at_call 41; refine (Hd.out _).mono ?_; rintro e w2 ⟨rfl, hb2⟩))
    go_ret
    exact ⟨rfl, below_after hb2 hb1⟩
  · go_enter Try.func13, Try.ntmps13
    go_wp2
    go_ret
    exact ⟨rfl, Below.refl _ _⟩

end Go.Proofs.Ytpnganfdccelmaa.fnExactFrameBytes
