/- MoveSpan: walked. -/
import Derived.Test.YtekgackednpdgaaSpans
namespace Go.Proofs.Ytekgackednpdgaa
open Go.RowKit

/-- impl.isTrue -/
theorem isTrue_any (n : Int) (w : World) : Calls Try.prog 106 #[.int .i64 n] w fun e w' => e = .returned (.bool (inB n 0 100000)) ∧ w = w' := by
  go_enter Try.func106, Try.ntmps106
  go_wp2_with (go_at_call 88; refine (within_any _ _ _ _).mono ?_; rintro e w1 ⟨rfl, rfl⟩)
  go_ret
  exact ⟨rfl, rfl⟩

/-- spec.l2True -/
theorem l2True_any (n : Int) (w : World) : Calls Try.prog 104 #[.int .i64 n] w fun e w' => e = .returned (.bool (inB n 0 100000)) ∧ w = w' := by
  go_enter Try.func104, Try.ntmps104
  go_wp2_with (go_at_call 84; refine (l1In_any _ _ _ _).mono ?_; rintro e w1 ⟨rfl, rfl⟩)
  go_ret
  exact ⟨rfl, rfl⟩

def pickI : Bool → Int → Int
  | true, x => x
  | false, _ => 0
@[simp] theorem pickI_true (x : Int) : pickI true x = x := rfl
@[simp] theorem pickI_false (x : Int) : pickI false x = 0 := rfl

def moveQ (lo hi n : Int) : Bool := (spanB lo hi && inB n 0 100000) && spanB (lo + n) (hi + n)

theorem spanB_iff {lo hi : Int} : spanB lo hi = true ↔ lo ≤ hi ∧ -10 ≤ lo ∧ hi ≤ 100010 := by simp [spanB]; omega

end Go.Proofs.Ytekgackednpdgaa
