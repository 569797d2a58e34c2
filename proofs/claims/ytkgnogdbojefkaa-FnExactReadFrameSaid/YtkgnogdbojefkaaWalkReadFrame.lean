/- The law FnExactReadFrame walked: it returns true, and nothing that was there has turned. -/
import Derived.Test.YtkgnogdbojefkaaFrame
namespace Go.Proofs.Ytkgnogdbojefkaa.fnExactReadFrame
open Go.RowKit

theorem walk (B : ByteArray) (at_ : Int) (hB : B.size ≤ maxLen) (w : World) : Calls Try.prog 9 #[.string B, .int .i64 at_] w fun e w' => e = .returned (.bool true) ∧ Below w.heap.size w w' := by
  unfold maxLen at hB
  by_cases hq : B.size ≤ 1048576
  · have Hc := Lib.hid (expReadFrameS_any B at_ hq)
    have Hd := Lib.hid (expReadFrame_any B at_ hq)
    generalize readFrameR B at_ = r at *
    obtain ⟨r0, r1, r2⟩ := r
    cases r2
    all_goals
      go_enter Try.func9, Try.ntmps9
      go_wp2_with (first | (go_at_call 40; refine (Hc.out _).mono ?_; rintro e w1 ⟨rfl, hb1⟩) | (go_at_call 41; refine (Hd.out _).mono ?_; rintro e w2 ⟨rfl, hb2⟩))
      go_ret
      exact ⟨rfl, below_after hb2 hb1⟩
  · go_enter Try.func9, Try.ntmps9
    go_wp2
    go_ret
    exact ⟨rfl, Below.refl _ _⟩
end Go.Proofs.Ytkgnogdbojefkaa.fnExactReadFrame
